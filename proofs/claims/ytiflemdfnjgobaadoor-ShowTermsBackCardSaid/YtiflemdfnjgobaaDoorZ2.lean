/- Lemmas for this claim: part 2. No condition. -/
import Derived.Test.YtiflemdfnjgobaaDoorZ1
import Derived.Laws.AppendOwn
import Derived.Laws.MakeOwn
set_option linter.unusedVariables false
set_option linter.unusedSimpArgs false
set_option linter.unusedSectionVars false
/- The abstract machine's operations on memory. -/
namespace Tab
open Go
variable [Globs]


theorem CsRel.values {m ro w} : ∀ {cs : List AV} {cb off : Nat}, CsRel m ro w cs cb off →
    ∃ vs : List Value, VsRel m ro w cs vs ∧ (∀ v ∈ vs, v.oneCell' = true) ∧ ∀ (j : Nat) (v : Value), vs[j]? = some v → w.cell? ⟨cb, off + j, none⟩ = some v
  | [], cb, off, _ => ⟨[], by simp [VsRel], by simp, by simp⟩
  | a :: as, cb, off, h => by
    simp only [CsRel] at h
    obtain ⟨_, ⟨v, hv, ho, hr⟩, h⟩ := h
    obtain ⟨vs, h1, h2, h3⟩ := h.values
    refine ⟨v :: vs, by simp only [VsRel]; exact ⟨v, vs, rfl, hr, h1⟩, by simp only [List.mem_cons]; rintro x (rfl | hx); exact ho; exact h2 x hx, fun j x hj => ?_⟩
    cases j with
    | zero => simp at hj; subst hj; exact hv
    | succ j => rw [show off + (j + 1) = off + 1 + j by omega]; exact h3 j x (by simpa using hj)

theorem Lay.values {m ro w} : ∀ {cs : List AV} {c : Array Value} {base : Nat}, Lay m ro w cs c base →
    ∃ vs : List Value, VsRel m ro w cs vs ∧ (∀ v ∈ vs, v.oneCell' = true) ∧ ∀ (j : Nat) (v : Value), vs[j]? = some v → c[base + j]? = some v
  | [], c, base, _ => ⟨[], by simp [VsRel], by simp, by simp⟩
  | a :: as, c, base, h => by
    obtain ⟨v, hv, ho, hr⟩ := h 0 a rfl
    have h' : Lay m ro w as c (base + 1) := fun i x hi => by
      have := h (i + 1) x (by simpa using hi)
      rwa [show base + (i + 1) = base + 1 + i by omega] at this
    obtain ⟨vs, h1, h2, h3⟩ := h'.values
    refine ⟨v :: vs, by simp only [VsRel]; exact ⟨v, vs, rfl, hr, h1⟩, by simp only [List.mem_cons]; rintro x (rfl | hx); exact ho; exact h2 x hx, fun j x hj => ?_⟩
    cases j with
    | zero => simp at hj; subst hj; simpa using hv
    | succ j => rw [show base + (j + 1) = base + 1 + j by omega]; exact h3 j x (by simpa using hj)

def Blk.rd : Blk → Option (Nat × List AV)
  | .cells g cs => some (g, cs)
  | .fro g cs => some (g, cs)
  | _ => none

theorem Lay.drop {m ro w cs c base} (h : Lay m ro w cs c base) (k : Nat) : Lay m ro w (cs.drop k) c (base + k) := fun i a hi => by
  have := h (k + i) a (by simpa using hi)
  rwa [show base + (k + i) = base + k + i by omega] at this
theorem Lay.take {m ro w cs c base} (h : Lay m ro w cs c base) (k : Nat) : Lay m ro w (cs.take k) c base := fun i a hi => by
  rw [List.getElem?_take] at hi
  split at hi
  · exact h i a hi
  · simp at hi

theorem Inv.cellsAt {m ro H w} (hi : Inv m ro H w) {b g cs x cb base} (hb : H b = some x) (hx : x.rd = some (g, cs)) (hm : m b g = some (.at cb base)) (o k : Nat) :
    ∃ vs : List Value, VsRel m ro w ((cs.drop o).take k) vs ∧ (∀ v ∈ vs, v.oneCell' = true) ∧ ∀ (j : Nat) (v : Value), vs[j]? = some v → w.cell? ⟨cb, base + o + j, none⟩ = some v := by
  have h := hi.blk b x hb
  cases x with
  | cells g' cs' =>
    simp only [Blk.rd, Option.some.injEq, Prod.mk.injEq] at hx
    obtain ⟨rfl, rfl⟩ := hx
    obtain ⟨c, t, hc, hl⟩ := h _ hm
    obtain ⟨vs, h1, h2, h3⟩ := ((hl.drop o).take k).values
    refine ⟨vs, h1, h2, fun j v hj => ?_⟩
    simp only [World.cell?, hc]
    simpa using h3 j v hj
  | fro g' cs' =>
    simp only [Blk.rd, Option.some.injEq, Prod.mk.injEq] at hx
    obtain ⟨rfl, rfl⟩ := hx
    exact ((CsRel.drop (h _ hm) o).take k).values
  | siter _ _ => simp [Blk.rd] at hx
  | dict _ => simp [Blk.rd] at hx
  | dead => simp [Blk.rd] at hx

theorem tyLd_one {P : Program} {t : TypeId} (h : tyLd P t = some none) {w : World} {cb off : Nat} {v : Value} (hc : w.cell? ⟨cb, off, none⟩ = some v) :
    (loadVar t ⟨cb, off, none⟩).run P w = .ok v w := by
  have hd : (isAgg t).run P w = .ok false w := by
    unfold tyLd at h
    unfold isAgg
    split at h
    · simp at h
    · simp at h
    · rename_i d h1 h2 hu
      simp only [Sem.run_bind, run_underlying' hu, Result.andThen_ok]
      rfl
    · simp at h
  simp [loadVar, hd, hc]

theorem tyLd_agg {P : Program} {t : TypeId} {k : Nat} (h : tyLd P t = some (some k)) {w : World} {cb off : Nat} {vs : List Value} (hl : vs.length = k)
    (hc : ∀ (j : Nat) (v : Value), vs[j]? = some v → w.cell? ⟨cb, off + j, none⟩ = some v) :
    (loadVar t ⟨cb, off, none⟩).run P w = .ok (.agg vs.toArray) w := by
  have hs : (isAgg t).run P w = .ok true w ∧ ∃ i, P.info? t = some i ∧ i.size = k := by
    unfold tyLd at h
    split at h
    · rename_i fs hu
      cases hi : P.info? t with
      | none => simp [hi] at h
      | some i => exact ⟨by simp [isAgg, run_underlying' hu], i, rfl, by simpa [hi] using h⟩
    · rename_i n e hu
      cases hi : P.info? t with
      | none => simp [hi] at h
      | some i => exact ⟨by simp [isAgg, run_underlying' hu], i, rfl, by simpa [hi] using h⟩
    · simp at h
    · simp at h
  obtain ⟨hd, i, hi, rfl⟩ := hs
  have hl' := run_loadCells_list (P := P) w ⟨cb, off, none⟩ vs (fun j v hj => by rw [addr_add]; exact hc j v hj)
  simp [loadVar, hd, run_sizeOf' hi, ← hl, hl']

theorem sem_load_tref {P : Program} {o : Oper} {ρ n t x cs} {c : AV} (ho : o.op = .load t x) (h1 : ρ x = .tref cs) (ht : tyLd P t = some none) (hc : cs[0]? = some c) : OpSem P o ρ n { v := c } := by
  refine OpSem.value fun m ro H w a hi hx _ => ?_
  have e1 := hx x (by simp [ho, Op.operands])
  rw [h1] at e1
  simp only [VRel] at e1
  obtain ⟨cb, off, e, h⟩ := e1
  obtain ⟨_, v, hv, _, hr⟩ := CsRel_iff.1 h 0 c hc
  refine ⟨v, ?_, hr⟩
  simp [execOp, ho, e, Instr.loadAt, Instr.sureAddr, tyLd_one ht (by simpa using hv)]

theorem sem_loadAgg_tref {P : Program} {o : Oper} {ρ n t x cs k} (ho : o.op = .load t x) (h1 : ρ x = .tref cs) (ht : tyLd P t = some (some k)) (hk : k ≤ cs.length) :
    OpSem P o ρ n { v := .agg (cs.take k) } := by
  refine OpSem.value fun m ro H w a hi hx _ => ?_
  have e1 := hx x (by simp [ho, Op.operands])
  rw [h1] at e1
  simp only [VRel] at e1
  obtain ⟨cb, off, e, h⟩ := e1
  obtain ⟨vs, h2, h3, h4⟩ := (h.take k).values
  have hl : vs.length = k := by rw [← h2.length]; simp; omega
  refine ⟨.agg vs.toArray, ?_, ?_⟩
  · simp [execOp, ho, e, Instr.loadAt, Instr.sureAddr, tyLd_agg ht hl h4]
  · simp only [VRel]; exact ⟨_, rfl, by simpa using h3, by simpa using h2⟩

theorem sem_load_ref {P : Program} {o : Oper} {ρ n t x b g i blk cs} {c : AV} (ho : o.op = .load t x) (h1 : ρ x = .ref b g i) (ht : tyLd P t = some none) (hb : blk.rd = some (g, cs)) (hc : cs[i]? = some c) :
    OpSem P o ρ n { v := c, need := [(b, blk)] } := by
  refine OpSem.value fun m ro H w a hi hx hn => ?_
  have e1 := hx x (by simp [ho, Op.operands])
  rw [h1] at e1
  simp only [VRel] at e1
  obtain ⟨cb, base, hm, e⟩ := e1
  have hb' := hn (b, blk) (by simp)
  obtain ⟨vs, h2, h3, h4⟩ := hi.cellsAt hb' hb hm i 1
  have hc' : ((cs.drop i).take 1)[0]? = some c := by simp [hc]
  obtain ⟨v, hv, hr⟩ := h2.get hc'
  refine ⟨v, ?_, hr⟩
  simp [execOp, ho, e, Instr.loadAt, Instr.sureAddr, tyLd_one ht (by simpa using h4 0 v hv)]

theorem sem_loadAgg_ref {P : Program} {o : Oper} {ρ n t x b g i blk cs k} (ho : o.op = .load t x) (h1 : ρ x = .ref b g i) (ht : tyLd P t = some (some k)) (hb : blk.rd = some (g, cs)) (hk : i + k ≤ cs.length) :
    OpSem P o ρ n { v := .agg ((cs.drop i).take k), need := [(b, blk)] } := by
  refine OpSem.value fun m ro H w a hi hx hn => ?_
  have e1 := hx x (by simp [ho, Op.operands])
  rw [h1] at e1
  simp only [VRel] at e1
  obtain ⟨cb, base, hm, e⟩ := e1
  have hb' := hn (b, blk) (by simp)
  obtain ⟨vs, h2, h3, h4⟩ := hi.cellsAt hb' hb hm i k
  have hl : vs.length = k := by rw [← h2.length]; simp; omega
  refine ⟨.agg vs.toArray, ?_, ?_⟩
  · simp [execOp, ho, e, Instr.loadAt, Instr.sureAddr, tyLd_agg ht hl h4]
  · simp only [VRel]; exact ⟨_, rfl, by simpa using h3, by simpa using h2⟩


def AV.one : AV → Bool
  | .agg _ | .tup _ | .junk => false
  | _ => true

theorem one_rel {m ro w} {a : AV} {v : Value} (h : VRel m ro w a v) (ho : a.one = true) : v.oneCell' = true := by
  cases a <;> simp only [AV.one, Bool.false_eq_true] at ho <;> simp only [VRel] at h
  case bool => subst h; rfl
  case int => subst h; rfl
  case str => subst h; rfl
  case nilp => subst h; rfl
  case ref => obtain ⟨_, _, _, rfl⟩ := h; rfl
  case tref => obtain ⟨_, _, rfl, _⟩ := h; rfl
  case sl => rcases h with ⟨_, rfl, _⟩ | ⟨_, _, _, rfl, _⟩ <;> rfl
  case hs =>
    obtain ⟨loc, _, h⟩ := h
    cases loc with
    | void => obtain ⟨rfl, _⟩ := h; rfl
    | «at» cb base => obtain ⟨_, rfl, _⟩ := h; rfl
  case nilm => subst h; rfl
  case mp => obtain ⟨_, _, rfl⟩ := h; rfl
  case nilf => subst h; rfl
  case fn => obtain ⟨_, _, rfl, _⟩ := h; rfl
  case nili => subst h; rfl
  case ifc => obtain ⟨_, rfl, _⟩ := h; rfl

def AV.cells : AV → Option (List AV)
  | .agg cs => some cs
  | .tup _ | .junk => none
  | a => some [a]

theorem cells_rel {m ro w} {a : AV} {v : Value} {cs : List AV} (h : VRel m ro w a v) (hc : a.cells = some cs) : VsRel m ro w cs v.cells.toList ∧ ∀ x ∈ v.cells.toList, x.oneCell' = true := by
  by_cases ho : a.one = true
  · have h1 := one_rel h ho
    have hcs : cs = [a] := by cases a <;> simp_all [AV.cells, AV.one]
    have hv : v.cells = #[v] := by cases v <;> simp_all [Value.cells, Value.oneCell']
    subst hcs
    rw [hv]
    exact ⟨by simp only [VsRel]; exact ⟨v, [], rfl, h, rfl⟩, by simpa using h1⟩
  · cases a <;> simp [AV.cells, AV.one] at hc ho
    subst hc
    simp only [VRel] at h
    obtain ⟨c, rfl, h1, h2⟩ := h
    exact ⟨h2, h1⟩

theorem alloc_heap (w : World) (o : Obj) : (w.alloc o).heap[w.heap.size]? = some o := heap_alloc_new w o
theorem alloc_old (w : World) (o : Obj) {k : Nat} (h : k < w.heap.size) : (w.alloc o).heap[k]? = w.heap[k]? := by
  show (w.heap.push o)[k]? = _
  rw [Array.getElem?_push, if_neg (by omega)]

theorem Inv.row {m ro H w} (hi : Inv m ro H w) {n : Nat} (hn : H n = none) (hm : ∀ g, m n g = none) {cs : List AV} {c : Array Value} (t : TypeId)
    (hl : ∀ (i : Nat) (a : AV), cs[i]? = some a → ∃ v, c[i]? = some v ∧ v.oneCell' = true ∧ VRel m ro w a v) {v : AV} :
    let m' : Mp := fun b₁ g₁ => if b₁ = n ∧ g₁ = 0 then some (.at w.heap.size 0) else m b₁ g₁
    Inv m' ro (app H n { v := v, new := some (.cells 0 cs) }) (w.alloc (.cells c t)) ∧
      Step m ro H w m' ro (app H n { v := v, new := some (.cells 0 cs) }) (w.alloc (.cells c t)) := by
  intro m'
  refine hi.change (m' := m') n (.cells 0 cs) 0 w.heap.size 0 rfl (fun _ _ => rfl) (fun b => ?_) (fun g l h => by simp [hm] at h) (fun l h => by simp [hm] at h) (.inl (Nat.le_refl _))
    (by simp) (by simp) rfl rfl rfl (fun c hc _ => alloc_old w _ hc) (fun c t fr h => ?_) (fun keep => ?_)
  · simp only [app]
  · have : w.heap[w.heap.size]? = none := Array.getElem?_eq_none (Nat.le_refl _)
    rw [this] at h
    simp at h
  · intro loc h
    simp only [m', if_true, and_self, Option.some.injEq] at h
    subst h
    refine ⟨c, t, alloc_heap w _, fun i a hia => ?_⟩
    obtain ⟨v, h1, h2, h3⟩ := hl i a hia
    exact ⟨v, by simpa using h1, h2, keep a v h3⟩

theorem OpSem.newRow {P : Program} {o : Oper} {ρ : Operand → AV} {n : Nat} {cs : List AV} {nd : List (Nat × Blk)} (r : AV)
    (h : ∀ m ro H w (a : Act), Inv m ro H w → (∀ x ∈ o.op.operands, VRel m ro w (ρ x) (a.eval x)) → (∀ p ∈ nd, H p.1 = some p.2) →
      ∃ (v' : Value) (c : Array Value) (t : TypeId) (vs : List Value), (execOp a.eval o).run P w = .ok (.value v') (w.alloc (.cells c t)) ∧ VsRel m ro w cs vs ∧ (∀ v ∈ vs, v.oneCell' = true) ∧ (∀ (i : Nat) (v : Value), vs[i]? = some v → c[i]? = some v) ∧
        (∀ m' ro' w', m' n 0 = some (.at w.heap.size 0) → w'.heap[w.heap.size]? = some (.cells c t) → VRel m' ro' w' r v')) :
    OpSem P o ρ n { v := r, need := nd, new := some (.cells 0 cs) } := by
  intro m ro H w a hi hx hn hf next Q k
  obtain ⟨v', c, t, vs, hr, hv, ho, hcv, hres⟩ := h m ro H w a hi hx hn
  obtain ⟨hHn, hmn⟩ := hf _ rfl
  unfold Oper.wp
  rw [hr]
  obtain ⟨h1, h2⟩ := hi.row (v := r) hHn hmn (cs := cs) (c := c) t (fun i a hia => by
    obtain ⟨v, hvi, hvr⟩ := hv.get hia
    exact ⟨v, hcv i v hvi, ho v (List.mem_of_getElem? hvi), hvr⟩)
  refine k _ _ _ v' (hres _ _ _ (by simp) (alloc_heap w _)) h1 h2 (fun b g hne => ?_)
  by_cases hc : b = n ∧ g = 0
  · exact .inr ⟨hc.1, rfl⟩
  · simp [hc] at hne

theorem ref_new {m : Mp} {ro : Nat → Prop} {w' : World} {n cb : Nat} (h : m n 0 = some (.at cb 0)) : VRel m ro w' (.ref n 0 0) (.pointer (some ⟨cb, 0, none⟩)) := by
  simp only [VRel]; exact ⟨cb, 0, h, rfl⟩

theorem sem_alloc {P : Program} {o : Oper} {ρ n t z by'} (ho : o.op = .alloc t) (hz : tyE P t = some (z, by')) : OpSem P o ρ n { v := .ref n 0 0, new := some (.cells 0 z) } := by
  obtain ⟨i, zv, hinfo, hzero, ⟨_, hone⟩, rfl, _, _⟩ := tyE_some hz
  refine OpSem.newRow _ fun m ro H w a hi hx _ => ⟨.pointer (some ⟨w.heap.size, 0, none⟩), zv.cells, t, zv.cells.toList, ?_, cvs_rel _, hone, by simp, fun m' ro' w' h _ => ref_new h⟩
  simp [execOp, ho, Instr.alloc, run_zero' hinfo hzero, newVar, newRow]

theorem sem_box {P : Program} {o : Oper} {ρ n t x cs} (ho : o.op = .box t x) (hc : (ρ x).cells = some cs) : OpSem P o ρ n { v := .ref n 0 0, new := some (.cells 0 cs) } := by
  refine OpSem.newRow _ fun m ro H w a hi hx _ => ?_
  have e1 := hx x (by simp [ho, Op.operands])
  obtain ⟨h1, h2⟩ := cells_rel e1 hc
  refine ⟨.pointer (some ⟨w.heap.size, 0, none⟩), (a.eval x).cells, t, (a.eval x).cells.toList, ?_, h1, h2, by simp, fun m' ro' w' h _ => ref_new h⟩
  simp [execOp, ho, Instr.box, newVar, newRow]

theorem hs_new {m : Mp} {ro : Nat → Prop} {w' : World} {n cb k cap es : Nat} {c : Array Value} {t : TypeId} (h : m n 0 = some (.at cb 0)) (hc : w'.heap[cb]? = some (.cells c t)) (hk : k ≤ cap) (hs : cap * es ≤ c.size) :
    VRel m ro w' (.hs n 0 0 k es) (.slice (some ⟨cb, 0, none⟩) k cap) := by
  simp only [VRel]
  exact ⟨_, h, cap, by simp, hk, c, t, (0, 0), hc, by simpa using hs⟩

def afill (places : Nat → Option (Nat × Nat)) (cells : List AV) : List (Nat × AV) → Option (List AV)
  | [] => some cells
  | (i, v) :: rest => match places i, v.cells with
    | some (off, size), some cs => bif Nat.beq cs.length size && Nat.ble (off + size) cells.length then afill places (cells.take off ++ cs ++ cells.drop (off + size)) rest else none
    | _, _ => none

theorem fold_set (vs : List Value) : ∀ (off k : Nat) (c : Array Value), off + k + vs.length ≤ c.size →
    ((vs.zipIdx k).foldl (fun cs (x : Value × Nat) => cs.setIfInBounds (off + x.2) x.1) c).toList = c.toList.take (off + k) ++ vs ++ c.toList.drop (off + k + vs.length) := by
  induction vs with
  | nil => intro off k c h; simp
  | cons v vs ih =>
    intro off k c h
    simp only [List.zipIdx_cons, List.foldl_cons]
    rw [ih off (k + 1) _ (by simp only [Array.size_setIfInBounds, List.length_cons] at *; omega)]
    have := list_seg_step c.toList (off + k) v vs (by simp only [List.length_cons, Array.length_toList] at *; omega)
    rw [show off + (k + 1) = off + k + 1 by omega]
    simpa [Array.toList_setIfInBounds, Nat.add_assoc, Nat.add_comm 1] using this

theorem afill_rel {m ro w} {places : Nat → Option (Nat × Nat)} : ∀ (ps : List (Nat × AV)) (qs : List (Nat × Value)) (cells : List AV) (c : Array Value) (out : List AV),
    afill places cells ps = some out → VsRel m ro w cells c.toList → (∀ v ∈ c.toList, v.oneCell' = true) →
    ps.length = qs.length → (∀ (j : Nat) (p : Nat × AV) (q : Nat × Value), ps[j]? = some p → qs[j]? = some q → p.1 = q.1 ∧ VRel m ro w p.2 q.2) →
    ∃ c', Instr.fill places c qs = some c' ∧ VsRel m ro w out c'.toList ∧ ∀ v ∈ c'.toList, v.oneCell' = true
  | [], [], cells, c, out, h, hv, ho, _, _ => by
    simp only [afill, Option.some.injEq] at h
    subst h
    exact ⟨c, rfl, hv, ho⟩
  | [], _ :: _, _, _, _, _, _, _, hl, _ => by simp at hl
  | _ :: _, [], _, _, _, _, _, _, hl, _ => by simp at hl
  | (i, a) :: ps, (i', x) :: qs, cells, c, out, h, hv, ho, hl, hp => by
    obtain ⟨e, hax⟩ := hp 0 _ _ rfl rfl
    simp only at e hax
    subst e
    simp only [afill] at h
    split at h
    · rename_i off size cs hpl hcs
      rw [Bool.cond_eq_ite] at h
      split at h
      · rename_i hc
        simp only [Bool.and_eq_true, Nat.ble_eq] at hc
        obtain ⟨hsz, hle⟩ := hc
        have hsz := Nat.eq_of_beq_eq_true hsz
        subst hsz
        obtain ⟨h1, h2⟩ := cells_rel hax hcs
        have hlen := hv.length
        have hxl := h1.length
        simp only [Array.length_toList] at hlen hxl
        have hfold := fold_set x.cells.toList off 0 c (by simp only [Array.length_toList]; omega)
        have hrel : VsRel m ro w (cells.take off ++ cs ++ cells.drop (off + cs.length)) (c.toList.take off ++ x.cells.toList ++ c.toList.drop (off + cs.length)) :=
          ((hv.take off).append h1).append (hv.drop _)
        obtain ⟨c', h3, h4, h5⟩ := afill_rel ps qs (cells.take off ++ cs ++ cells.drop (off + cs.length)) (x.cells.zipIdx.foldl (fun cs (y : Value × Nat) => cs.setIfInBounds (off + y.2) y.1) c) out h
          (by
            rw [← Array.foldl_toList, Array.toList_zipIdx, hfold]
            simpa [hxl] using hrel)
          (by
            rw [← Array.foldl_toList, Array.toList_zipIdx, hfold]
            intro v hv'
            simp only [List.mem_append] at hv'
            rcases hv' with (h | h) | h
            · exact ho v (List.mem_of_mem_take h)
            · exact h2 v h
            · exact ho v (List.mem_of_mem_drop h))
          (by simpa using hl) (fun j p q h1 h2 => hp (j + 1) p q (by simpa using h1) (by simpa using h2))
        refine ⟨c', ?_, h4, h5⟩
        simp only [Instr.fill, hpl]
        rw [if_neg]
        · exact h3
        · simp only [Bool.or_eq_true, bne_iff_ne, decide_eq_true_eq]
          omega
      · simp at h
    · simp at h

end Tab

/- More of the abstract machine's operations: aggregates, stores, new slices. -/
namespace Tab
open Go
variable [Globs]

def tyPl (P : Program) (t : TypeId) : Option (List AV × List (Nat × Nat)) :=
  match tyE P t, P.underlying t with
  | some (z, _), some (.struct fields) => (fields.toList.mapM fun (f : Field) => (P.info? f.type).map fun i => (f.offset, i.size)).map fun ps => (z, ps)
  | some (z, _), some (.array n e) => (P.info? e).map fun i => (z, (List.range n).map fun k => (k * i.size, i.size))
  | _, _ => none

def evParts (ρ : Operand → AV) : List (Nat × Operand) → List (Nat × AV)
  | [] => []
  | (i, x) :: rest => (i, ρ x) :: evParts ρ rest

theorem evParts_get {ρ : Operand → AV} : ∀ {ps : List (Nat × Operand)} {j : Nat} {p : Nat × AV}, (evParts ρ ps)[j]? = some p → ∃ x, ps[j]? = some (p.1, x) ∧ p.2 = ρ x
  | [], j, p, h => by simp [evParts] at h
  | (i, x) :: rest, j, p, h => by
    cases j with
    | zero => simp [evParts] at h; subst h; exact ⟨x, rfl, rfl⟩
    | succ j => simpa using evParts_get (ps := rest) (by simpa [evParts] using h)

theorem evParts_length {ρ : Operand → AV} : ∀ (ps : List (Nat × Operand)), (evParts ρ ps).length = ps.length
  | [] => rfl
  | (i, x) :: rest => by simp [evParts, evParts_length rest]

theorem Fill.mono {p q : Nat → Option (Nat × Nat)} (h : ∀ i x, p i = some x → q i = some x) : ∀ (ps : List (Nat × Value)) (c c' : Array Value), Instr.fill p c ps = some c' → Instr.fill q c ps = some c'
  | [], c, c', e => e
  | (i, v) :: ps, c, c', e => by
    simp only [Instr.fill] at e ⊢
    cases hp : p i with
    | none => simp [hp] at e
    | some x =>
      rw [h i x hp]
      simp only [hp] at e ⊢
      split at e
      · simp at e
      · rename_i h1; rw [if_neg h1]; exact Fill.mono h ps _ c' e

theorem tyPl_built {P : Program} {t : TypeId} {z : List AV} {ps : List (Nat × Nat)} (h : tyPl P t = some (z, ps)) :
    ∃ zv : Value, (∀ v ∈ zv.cells.toList, v.oneCell' = true) ∧ z = zv.cells.toList.map cv ∧
      ∀ (qs : List (Nat × Value)) (c : Array Value), Instr.fill (ps[·]?) zv.cells qs = some c → P.built t qs = some c := by
  unfold tyPl at h
  split at h
  · rename_i z' _ fields hz hu
    obtain ⟨i, zv, hinfo, hzero, ⟨_, hone⟩, hzz, _, _⟩ := tyE_some hz
    cases hp : (fields.toList.mapM fun (f : Field) => (P.info? f.type).map fun i => (f.offset, i.size)) with
    | none => simp [hp] at h
    | some places =>
      simp only [hp, Option.map_some, Option.some.injEq, Prod.mk.injEq] at h
      obtain ⟨rfl, rfl⟩ := h
      refine ⟨zv, hone, hzz, fun qs c hf => ?_⟩
      simp only [Program.built, hinfo, hu, hzero, hp]
      simpa using hf
  · rename_i z' _ k e hz hu
    obtain ⟨i, zv, hinfo, hzero, ⟨_, hone⟩, hzz, _, _⟩ := tyE_some hz
    cases he : P.info? e with
    | none => simp [he] at h
    | some ie =>
      simp only [he, Option.map_some, Option.some.injEq, Prod.mk.injEq] at h
      obtain ⟨rfl, rfl⟩ := h
      refine ⟨zv, hone, hzz, fun qs c hf => ?_⟩
      simp only [Program.built, hinfo, hu, hzero, he]
      refine Fill.mono (fun j x hx => ?_) qs _ c hf
      simp only [List.getElem?_map, Option.map_eq_some_iff, List.getElem?_eq_some_iff, List.getElem_range, List.length_range] at hx
      obtain ⟨y, ⟨hlt, rfl⟩, rfl⟩ := hx
      rfl
  · simp at h

theorem parts_rel {m ro w} {ρ : Operand → AV} {a : Act} {parts : Array (Nat × Operand)} (hx : ∀ p ∈ parts.toList, VRel m ro w (ρ p.2) (a.eval p.2)) :
    ∀ (j : Nat) (p : Nat × AV) (q : Nat × Value), (evParts ρ parts.toList)[j]? = some p → ((parts.map fun x => (x.1, a.eval x.2)).toList)[j]? = some q → p.1 = q.1 ∧ VRel m ro w p.2 q.2 := by
  intro j p q hp hq
  obtain ⟨x, h1, h2⟩ := evParts_get hp
  have : q = (p.1, a.eval x) := by
    simp only [Array.toList_map, List.getElem?_map, h1, Option.map_some, Option.some.injEq] at hq
    exact hq.symm
  subst this
  refine ⟨rfl, ?_⟩
  rw [h2]
  exact hx (p.1, x) (List.mem_of_getElem? h1)

theorem sem_build {P : Program} {o : Oper} {ρ n t} {parts : Array (Nat × Operand)} {z ps out} (ho : o.op = .build t parts) (hp : tyPl P t = some (z, ps))
    (hf : afill (ps[·]?) z (evParts ρ parts.toList) = some out) : OpSem P o ρ n { v := .agg out } := by
  refine OpSem.value fun m ro H w a hi hx _ => ?_
  obtain ⟨zv, hone, rfl, hb⟩ := tyPl_built hp
  have hx' : ∀ p ∈ parts.toList, VRel m ro w (ρ p.2) (a.eval p.2) := fun p hp => hx p.2 (by
    simp only [ho, Op.operands, List.mem_toArray, List.mem_map]
    exact ⟨p, hp, rfl⟩)
  obtain ⟨c, h1, h2, h3⟩ := afill_rel (evParts ρ parts.toList) ((parts.map fun x => (x.1, a.eval x.2)).toList) _ zv.cells out hf (cvs_rel _) hone (by simp [evParts_length]) (parts_rel hx')
  refine ⟨.agg c, ?_, by simp only [VRel]; exact ⟨c, rfl, h3, h2⟩⟩
  simp only [execOp, ho, Sem.run_bind, Sem.run_pure]
  rw [run_build (P := P) w t _ c (hb _ c h1)]
  rfl

def reps (z : List AV) : Nat → List AV
  | 0 => []
  | n + 1 => z ++ reps z n

theorem reps_length (z : List AV) : ∀ n, (reps z n).length = n * z.length
  | 0 => by simp [reps]
  | n + 1 => by rw [reps, List.length_append, reps_length z n, Nat.succ_mul]; omega

theorem reps_get (z : List AV) : ∀ (n i : Nat) (a : AV), (reps z n)[i]? = some a → z[i % z.length]? = some a
  | 0, i, a, h => by simp [reps] at h
  | n + 1, i, a, h => by
    rw [reps, List.getElem?_append] at h
    split at h
    · rename_i hlt; rw [Nat.mod_eq_of_lt hlt]; exact h
    · rename_i hge
      have := reps_get z n _ a h
      rwa [← Nat.mod_eq_sub_mod (by omega)] at this

theorem made_get {z : Array Value} {N i : Nat} {v : Value} (hi : i < N) (hz : z[i % z.size]? = some v) : ((Array.range N).map (fun x => z[x % z.size]!))[i]? = some v := by
  simp only [Array.getElem?_map, Array.getElem?_range, hi, if_true, Option.map_some, Option.some.injEq]
  rw [getElem!_def, hz]

theorem reps_rel {m ro w} (zv : Value) (hone : ∀ v ∈ zv.cells.toList, v.oneCell' = true) (n : Nat) :
    VsRel m ro w (reps (zv.cells.toList.map cv) n) ((Array.range (n * zv.cells.size)).map (fun x => zv.cells[x % zv.cells.size]!)).toList ∧
      ∀ v ∈ ((Array.range (n * zv.cells.size)).map (fun x => zv.cells[x % zv.cells.size]!)).toList, v.oneCell' = true := by
  refine ⟨VsRel.of_get (by simp [reps_length]) fun i a v ha hv => ?_, fun v hv => ?_⟩
  · have h1 := reps_get _ _ _ _ ha
    simp only [List.length_map, Array.length_toList, List.getElem?_map, Option.map_eq_some_iff] at h1
    obtain ⟨u, hu, rfl⟩ := h1
    have hlt : i < n * zv.cells.size := by
      have := (List.getElem?_eq_some_iff.1 ha).1
      simpa [reps_length] using this
    have h2 : ((Array.range (n * zv.cells.size)).map (fun x => zv.cells[x % zv.cells.size]!))[i]? = some u := made_get hlt (by simpa using hu)
    have : v = u := by
      have h3 : ((Array.range (n * zv.cells.size)).map (fun x => zv.cells[x % zv.cells.size]!)).toList[i]? = some u := by rw [Array.getElem?_toList]; exact h2
      rw [hv] at h3
      simpa using h3
    subst this
    exact cv_rel v
  · obtain ⟨i, hi⟩ := List.getElem?_of_mem hv
    have hlt : i < n * zv.cells.size := by
      have := (List.getElem?_eq_some_iff.1 hi).1
      simpa using this
    have hpos : 0 < zv.cells.size := by
      rcases Nat.eq_zero_or_pos zv.cells.size with h | h
      · rw [h] at hlt; omega
      · exact h
    have hm := Nat.mod_lt i hpos
    have h2 := made_get (N := n * zv.cells.size) (z := zv.cells) (i := i) (v := zv.cells[i % zv.cells.size]) hlt (by simp [hm])
    have h3 : ((Array.range (n * zv.cells.size)).map (fun x => zv.cells[x % zv.cells.size]!)).toList[i]? = some (zv.cells[i % zv.cells.size]) := by rw [Array.getElem?_toList]; exact h2
    rw [hi] at h3
    have : v = zv.cells[i % zv.cells.size] := by simpa using h3
    rw [this]
    exact hone _ (by simp)

def places (es : Nat) (n : Nat) : Nat → Option (Nat × Nat) := fun i => bif Nat.blt i n then some (i * es, es) else none

theorem sem_buildSlice {P : Program} {o : Oper} {ρ n t e N} {parts : Array (Nat × Operand)} {z by' out} (ho : o.op = .buildSlice t N parts) (he : tyElem P t = some e) (hz : tyE P e = some (z, by'))
    (hsz : N * z.length ≤ 16777216) (hf : afill (fun i => some (i * z.length, z.length)) (reps z N) (evParts ρ parts.toList) = some out) :
    OpSem P o ρ n { v := .hs n 0 0 N z.length, new := some (.cells 0 out) } := by
  obtain ⟨i, zv, hinfo, hzero, ⟨hzs, hone⟩, rfl, _, hlen⟩ := tyE_some hz
  have hu := tyElem_some he
  simp only [List.length_map, Array.length_toList] at hsz hf hlen ⊢
  refine OpSem.newRow _ fun m ro H w a hi hx _ => ?_
  have hx' : ∀ p ∈ parts.toList, VRel m ro w (ρ p.2) (a.eval p.2) := fun p hp => hx p.2 (by
    simp only [ho, Op.operands, List.mem_toArray, List.mem_map]
    exact ⟨p, hp, rfl⟩)
  obtain ⟨r1, r2⟩ := reps_rel (m := m) (ro := ro) (w := w) zv hone N
  obtain ⟨c, h1, h2, h3⟩ := afill_rel (evParts ρ parts.toList) ((parts.map fun x => (x.1, a.eval x.2)).toList) _ _ out hf r1 r2 (by simp [evParts_length]) (parts_rel hx')
  have hcs : c.size = N * zv.cells.size := by
    have hl : ∀ (ps : List (Nat × AV)) (cells out : List AV), afill (fun i => some (i * zv.cells.size, zv.cells.size)) cells ps = some out → out.length = cells.length := by
      intro ps
      induction ps with
      | nil => intro cells out h; simp only [afill, Option.some.injEq] at h; rw [h]
      | cons p ps ih =>
        intro cells out h
        obtain ⟨j, x⟩ := p
        simp only [afill] at h
        split at h
        · rename_i off size cs hpl hcs
          simp only [Option.some.injEq, Prod.mk.injEq] at hpl
          obtain ⟨rfl, rfl⟩ := hpl
          rw [Bool.cond_eq_ite] at h
          split at h
          · rename_i hc
            simp only [Bool.and_eq_true, Nat.ble_eq] at hc
            have hsz := Nat.eq_of_beq_eq_true hc.1
            have := ih _ _ h
            simp at this
            omega
          · simp at h
        · simp at h
    have e1 := hl _ _ _ hf
    have e2 := h2.length
    rw [reps_length] at e1
    simp only [List.length_map, Array.length_toList] at e1 e2
    omega
  refine ⟨.slice (some ⟨w.heap.size, 0, none⟩) N N, c, e, c.toList, ?_, h2, h3, by simp, fun m' ro' w' h hc => hs_new h hc (Nat.le_refl _) (by omega)⟩
  have h1' : Instr.fill (fun i_1 => some (i_1 * i.size, i.size)) ((Array.range (N * i.size)).map fun x => zv.cells[x % zv.cells.size]!) (parts.map fun x => (x.1, a.eval x.2)).toList = some c := by
    rw [← hzs]; exact h1
  have n1 : ¬ (N * i.size > 2 ^ 24) := by rw [← hzs]; omega
  have hrun : (Instr.buildSlice t N (parts.map fun x => (x.1, a.eval x.2))).run P w = .ok (.slice (some ⟨w.heap.size, 0, none⟩) N N) (w.alloc (.cells c e)) := by
    unfold Instr.buildSlice
    by_cases h0 : N * i.size = 0
    · have hemp : ((Array.range (N * i.size)).map fun x => zv.cells[x % zv.cells.size]!) = ((Array.range (N * i.size)).map fun x => (#[] : Array Value)[x % (#[] : Array Value).size]!) := by
        rw [h0, Array.range_zero']; simp
      rw [hemp] at h1'
      simp only [Sem.run_bind, run_underlying' hu, Result.andThen_ok, run_sizeOf' hinfo, if_neg n1, if_pos h0, Sem.run_pure]
      rw [h1']
      rfl
    · simp only [Sem.run_bind, run_underlying' hu, Result.andThen_ok, run_sizeOf' hinfo, if_neg n1, if_neg h0, Sem.run_pure, run_zero' hinfo hzero]
      rw [h1']
      rfl
  simp only [execOp, ho, Sem.run_bind, Sem.run_pure]
  rw [hrun]
  rfl


theorem Inv.write {m ro H w} (hi : Inv m ro H w) {n b g : Nat} {cs : List AV} {cb base : Nat} {c : Array Value} {t : TypeId} (hb : H b = some (.cells g cs)) (hm : m b g = some (.at cb base))
    (hc : w.heap[cb]? = some (.cells c t (0, 0))) (c' : Array Value) (hsz : c'.size = c.size) (g' base' : Nat) (hg : g ≤ g') (hbase : g' = g → base' = base) (cs' : List AV) {v : AV} {nd : List (Nat × Blk)}
    (hl : ∀ (i : Nat) (a : AV), cs'[i]? = some a → ∃ v, c'[base' + i]? = some v ∧ v.oneCell' = true ∧ VRel m ro w a v) :
    let m' : Mp := fun b₁ g₁ => if b₁ = b ∧ g₁ = g' then some (.at cb base') else m b₁ g₁
    Inv m' ro (app H n { v := v, need := nd, upd := some (b, .cells g' cs') }) (w.setRow cb c') ∧
      Step m ro H w m' ro (app H n { v := v, need := nd, upd := some (b, .cells g' cs') }) (w.setRow cb c') := by
  intro m'
  have hlt : cb < w.heap.size := hi.own_lt hb rfl hm
  have hrow := setRow_heap w cb c c' t (0, 0) hc
  refine hi.change (m' := m') b (.cells g' cs') g' cb base' rfl (fun _ _ => rfl) (fun b₁ => ?_) (fun g₁ l h => Nat.le_trans (hi.gen b _ g hb rfl g₁ l h) hg) (fun l h => ?_) (.inr ⟨_, g, base, hb, rfl, hm⟩)
    (by simpa using hlt) (by simp) rfl rfl rfl (fun k _ hne => setRow_other w cb k c' hne) (fun c₁ t₁ fr h => ?_) (fun keep => ?_)
  · simp only [app]
  · have hle := hi.gen b _ g hb rfl g' l h
    have : g' = g := by omega
    subst this
    rw [hm] at h
    cases h
    rw [hbase rfl]
  · rw [hc] at h
    cases h
    exact ⟨c', hrow, hsz⟩
  · intro loc h
    simp only [m', true_and, and_self, if_true, Option.some.injEq] at h
    subst h
    refine ⟨c', t, hrow, fun i a hia => ?_⟩
    obtain ⟨v, h1, h2, h3⟩ := hl i a hia
    exact ⟨v, h1, h2, keep a v h3⟩

def over (cs : List AV) (o : Nat) (xs : List AV) : List AV := cs.take o ++ xs ++ cs.drop (o + xs.length)

theorem over_lay {m ro w} {cs : List AV} {c : Array Value} {base : Nat} (h : Lay m ro w cs c base) (o : Nat) {xs : List AV} {vs : List Value} (hx : VsRel m ro w xs vs) (h1 : ∀ v ∈ vs, v.oneCell' = true)
    (hfit : base + o + xs.length ≤ c.size) (ho : o ≤ cs.length) :
    Lay m ro w (over cs o xs) (c.toList.take (base + o) ++ vs ++ c.toList.drop (base + o + vs.length)).toArray base := by
  intro i a hia
  have hlen := hx.length
  have hcl : c.toList.length = c.size := Array.length_toList
  have e : (c.toList.take (base + o) ++ vs ++ c.toList.drop (base + o + vs.length)).toArray[base + i]? = (c.toList.take (base + o) ++ vs ++ c.toList.drop (base + o + vs.length))[base + i]? := by simp
  rw [e]
  unfold over at hia
  by_cases c1 : i < o
  · have hi' : cs[i]? = some a := by
      rw [List.append_assoc, List.getElem?_append_left (by simp; omega), List.getElem?_take, if_pos c1] at hia; exact hia
    obtain ⟨v, hv, k1, k2⟩ := h i a hi'
    refine ⟨v, ?_, k1, k2⟩
    rw [List.append_assoc, List.getElem?_append_left (by simp; omega), List.getElem?_take, if_pos (by omega)]
    simpa using hv
  · by_cases c2 : i < o + xs.length
    · have hi' : xs[i - o]? = some a := by
        rw [List.append_assoc, List.getElem?_append_right (by simp; omega), List.getElem?_append_left (by simp; omega)] at hia
        simpa [Nat.min_eq_left ho] using hia
      obtain ⟨v, hv, hr⟩ := hx.get hi'
      refine ⟨v, ?_, h1 v (List.mem_of_getElem? hv), hr⟩
      rw [List.append_assoc, List.getElem?_append_right (by simp; omega), List.getElem?_append_left (by simp; omega)]
      simp only [List.length_take, hcl]
      rw [show base + i - min (base + o) c.size = i - o by omega]
      exact hv
    · have hi' : cs[i]? = some a := by
        rw [List.getElem?_append_right (by simp; omega), List.getElem?_drop] at hia
        simp only [List.length_append, List.length_take, Nat.min_eq_left ho] at hia
        rwa [show o + xs.length + (i - (o + xs.length)) = i by omega] at hia
      obtain ⟨v, hv, k1, k2⟩ := h i a hi'
      refine ⟨v, ?_, k1, k2⟩
      rw [List.getElem?_append_right (by simp; omega), List.getElem?_drop]
      simp only [List.length_append, List.length_take, hcl]
      rw [show base + o + vs.length + (base + i - (min (base + o) c.size + vs.length)) = base + i by omega]
      simpa using hv

theorem sem_store {P : Program} {o : Oper} {ρ n t x y b g i cs xs k} (ho : o.op = .store t x y) (h1 : ρ x = .ref b g i) (h2 : (ρ y).cells = some xs) (ht : tySz P t = some k) (hk : xs.length = k) (h0 : 0 < k) (hfit : i + k ≤ cs.length) :
    OpSem P o ρ n { v := .junk, need := [(b, .cells g cs)], upd := some (b, .cells g (over cs i xs)) } := by
  intro m ro H w a hi hx hn hf next Q kk
  have e1 := hx x (by simp [ho, Op.operands])
  have e2 := hx y (by simp [ho, Op.operands])
  rw [h1] at e1
  simp only [VRel] at e1
  obtain ⟨cb, base, hm, e1⟩ := e1
  obtain ⟨r1, r2⟩ := cells_rel e2 h2
  have hb := hn (b, .cells g cs) (by simp)
  simp only at hb
  obtain ⟨c, t', hc, hl⟩ := hi.blk b _ hb _ hm
  obtain ⟨ti, hti, hts⟩ : ∃ ti, P.info? t = some ti ∧ ti.size = k := by
    unfold tySz at ht
    cases h : P.info? t with
    | none => simp [h] at ht
    | some ti => exact ⟨ti, rfl, by simpa [h] using ht⟩
  have hfit' : base + i + xs.length ≤ c.size := by
    have hlast : cs[cs.length - 1]? = some (cs[cs.length - 1]'(by omega)) := List.getElem?_eq_getElem _
    obtain ⟨v, hv, _⟩ := hl _ _ hlast
    have := (Array.getElem?_eq_some_iff.1 hv).1
    omega
  have hrun := run_storeCells_at P cb (base + i) t' (a.eval y).cells.toList 0 c w hc (by rw [← r1.length]; omega) r2
  simp only [Nat.add_zero] at hrun
  have hlay := over_lay hl i r1 r2 hfit' (by omega)
  have hrl := r1.length
  obtain ⟨k1, k2⟩ := hi.write (n := n) hb hm hc (c.toList.take (base + i) ++ (a.eval y).cells.toList ++ c.toList.drop (base + i + (a.eval y).cells.toList.length)).toArray
    (by simp only [List.size_toArray, List.length_append, List.length_take, List.length_drop, Array.length_toList] at *; omega) g base (Nat.le_refl _) (fun _ => rfl) (over cs i xs) (v := .junk) (nd := [(b, .cells g cs)]) hlay
  have hex : (execOp a.eval o).run P w = .ok .skip (w.setRow cb (c.toList.take (base + i) ++ (a.eval y).cells.toList ++ c.toList.drop (base + i + (a.eval y).cells.toList.length)).toArray) := by
    have hsz : (a.eval y).cells.size = ti.size := by rw [hts, ← hk, hrl]; simp
    simp [execOp, ho, e1, Instr.storeAt, Instr.sureAddr, storeVar, run_sizeOf' hti, hsz, hrun]
  unfold Oper.wp
  rw [hex]
  refine kk _ _ _ undef (by simp only [VRel]) k1 k2 (fun b' g₁ hne => ?_)
  by_cases hcc : b' = b ∧ g₁ = g
  · exact .inl ⟨_, by rw [hcc.1]⟩
  · simp [hcc] at hne

end Tab

/- More of the abstract machine's operations: make, append, slicing, ranging over a string. -/
namespace Tab
open Go
variable [Globs]

theorem sem_makeSlice {P : Program} {o : Oper} {ρ n t e x y kl kc} {l c : Int} {z by'} (ho : o.op = .makeSlice t x y) (h1 : ρ x = .int kl l) (h2 : ρ y = .int kc c) (he : tyElem P t = some e) (hz : tyE P e = some (z, by'))
    (h0 : 0 ≤ l) (hlc : l ≤ c) (hb : (by' : Int) * c ≤ 281474976710656) (h63 : c ≤ 9223372036854775807) :
    OpSem P o ρ n { v := .hs n 0 0 l.toNat z.length, new := some (.cells 0 (reps z c.toNat)) } := by
  obtain ⟨i, zv, hinfo, hzero, ⟨hzs, hone⟩, rfl, hby, hlen⟩ := tyE_some hz
  have hu := tyElem_some he
  refine OpSem.newRow _ fun m ro H w a hi hx _ => ?_
  have e1 := hx x (by simp [ho, Op.operands])
  have e2 := hx y (by simp [ho, Op.operands])
  rw [h1] at e1
  rw [h2] at e2
  simp only [VRel] at e1 e2
  obtain ⟨r1, r2⟩ := reps_rel (m := m) (ro := ro) (w := w) zv hone c.toNat
  have hr := run_make (P := P) w t e i zv hu hinfo hzero kl kc l c h0 hlc (by rw [hby]; exact hb) h63
  refine ⟨.slice (some ⟨w.heap.size, 0, none⟩) l.toNat c.toNat, madeCells zv.cells (c.toNat * i.size), e, _, ?_, r1, r2, ?_, fun m' ro' w' h hc => hs_new h hc (by omega) ?_⟩
  · simp only [execOp, ho, e1, e2, Sem.run_bind, Sem.run_pure, hr, Result.andThen_ok]
  · intro j v hj
    rw [← hzs]
    rw [Array.getElem?_toList] at hj
    exact hj
  · simp only [size_madeCells, List.length_map, Array.length_toList, hzs, Nat.le_refl]


def tyNoInt (P : Program) (t : TypeId) : Bool := match P.underlying t with | some (.slice _) => true | some .string => true | _ => false

theorem tyNoInt_some {P : Program} {t : TypeId} (h : tyNoInt P t = true) : (∃ e, P.underlying t = some (.slice e)) ∨ P.underlying t = some .string := by
  unfold tyNoInt at h
  split at h
  · rename_i e he; exact .inl ⟨e, he⟩
  · rename_i he; exact .inr he
  · simp at h

def XSem (P : Program) (a : AV) (es : Nat) (nd : List (Nat × Blk)) (k : Nat) (xs : List AV) : Prop :=
  ∀ m ro H w (v : Value), Inv m ro H w → VRel m ro w a v → (∀ p ∈ nd, H p.1 = some p.2) →
    ∃ vs, VsRel m ro w xs vs ∧ (∀ v ∈ vs, v.oneCell' = true) ∧ ∀ w' : World, w'.heap = w.heap → (Builtin.lenOf v).run P w' = .ok k w' ∧ (Builtin.firstCells es k v).run P w' = .ok vs.toArray w'

theorem xsem_sl {P : Program} {k : SK} {N : Nat} {cs : List AV} {es : Nat} (h : cs.length = N * es) : XSem P (.sl k N cs) es [] N cs := by
  intro m ro H w v hi hv _
  simp only [VRel] at hv
  rcases hv with ⟨_, rfl, rfl, rfl⟩ | ⟨_, ⟨cb, off, sp⟩, cap, rfl, _, _, ⟨rfl, rfl⟩ | ⟨hsp, hc⟩⟩
  · exact ⟨[], by simp [VsRel], by simp, fun w' _ => ⟨rfl, by simp [Builtin.firstCells]⟩⟩
  · exact ⟨[], by simp [VsRel], by simp, fun w' _ => ⟨rfl, by simp [Builtin.firstCells, loadCells, loadCellsFrom]⟩⟩
  · simp only at hsp hc
    subst hsp
    obtain ⟨vs, h1, h2, h3⟩ := hc.values
    refine ⟨vs, h1, h2, fun w' hw => ⟨rfl, ?_⟩⟩
    have hl : vs.length = N * es := by rw [← h1.length]; exact h
    exact run_firstCells_some (P := P) w' es N ⟨cb, off, none⟩ N cap vs hl (fun j v hj => by rw [addr_add, cell?_of_heap (w := w) (by rw [hw])]; exact h3 j v hj)

theorem xsem_hs {P : Program} {b g o N es : Nat} {blk : Blk} {cs : List AV} (hb : blk.rd = some (g, cs)) (h : o + N * es ≤ cs.length) :
    XSem P (.hs b g o N es) es [(b, blk)] N ((cs.drop o).take (N * es)) := by
  intro m ro H w v hi hv hn
  simp only [VRel] at hv
  obtain ⟨loc, hm, hh⟩ := hv
  have hb' := hn (b, blk) (by simp)
  cases loc with
  | void =>
    simp only [HsRel] at hh
    obtain ⟨rfl, rfl, rfl⟩ := hh
    exact ⟨[], by simp [VsRel], by simp, fun w' _ => ⟨rfl, by simp [Builtin.firstCells]⟩⟩
  | «at» cb base =>
    simp only [HsRel] at hh
    obtain ⟨cap, rfl, _⟩ := hh
    obtain ⟨vs, h1, h2, h3⟩ := hi.cellsAt hb' hb hm o (N * es)
    refine ⟨vs, h1, h2, fun w' hw => ⟨rfl, ?_⟩⟩
    have hl : vs.length = N * es := by rw [← h1.length]; simp; omega
    exact run_firstCells_some (P := P) w' es N ⟨cb, base + o, none⟩ N cap vs hl (fun j v hj => by rw [addr_add, cell?_of_heap (w := w) (by rw [hw])]; exact h3 j v hj)

def bytesA (s : List UInt8) : List AV := s.map fun c => .int .u8 c.toNat

theorem xsem_str {P : Program} {s : List UInt8} : XSem P (.str s) 1 [] s.length (bytesA s) := by
  intro m ro H w v hi hv _
  simp only [VRel] at hv
  subst hv
  refine ⟨s.map fun c => .int .u8 c.toNat, ?_, by simp [Value.oneCell'], fun w' _ => ⟨by simp [Builtin.lenOf, ba_size], ?_⟩⟩
  · refine VsRel.of_get (by simp [bytesA]) fun i a v ha hv => ?_
    simp only [bytesA, List.getElem?_map, Option.map_eq_some_iff] at ha hv
    obtain ⟨c, hc, rfl⟩ := ha
    obtain ⟨c', hc', rfl⟩ := hv
    rw [hc] at hc'
    cases hc'
    exact vrel_int
  · simp [Builtin.firstCells]

theorem run_append_in {P : Program} {w : World} {t xt e : TypeId} {i : TypeInfo} (ht : P.underlying t = some (.slice e)) (hi : P.info? e = some i) (hx : tyNoInt P xt = true) (ty : TypeId)
    {cb off n cap k : Nat} {c : Array Value} {t' : TypeId} (hc : w.heap[cb]? = some (.cells c t' (0, 0))) {x : Value} {vs : List Value}
    (hl : (Builtin.lenOf x).run P w = .ok k w) (hf : (Builtin.firstCells i.size k x).run P w = .ok vs.toArray w) (h1 : ∀ v ∈ vs, v.oneCell' = true) (hroom : n + k ≤ cap) (hfit : off + n * i.size + vs.length ≤ c.size) :
    (Builtin.append_ #[t, xt] ty #[.slice (some ⟨cb, off, none⟩) n cap, x]).run P w =
      .ok (.slice (some ⟨cb, off, none⟩) (n + k) cap) (w.setRow cb (c.toList.take (off + n * i.size) ++ vs ++ c.toList.drop (off + n * i.size + vs.length)).toArray) := by
  have hst := run_storeCells_at P cb (off + n * i.size) t' vs 0 c w hc (by omega) h1
  simp only [Nat.add_zero] at hst
  rcases tyNoInt_some hx with ⟨e', hd⟩ | hd
  · simp [Builtin.append_, run_underlying ht, Go.sizeOf, typeInfo, hi, run_underlying hd, hl, hroom, hf, addr_add, hst]
  · simp [Builtin.append_, run_underlying ht, Go.sizeOf, typeInfo, hi, run_underlying hd, hl, hroom, hf, addr_add, hst]

theorem run_append_out {P : Program} {w : World} {t xt e : TypeId} {i : TypeInfo} {z : Value} (ht : P.underlying t = some (.slice e)) (hi : P.info? e = some i) (hz : i.zero = some z) (hx : tyNoInt P xt = true) (ty : TypeId)
    {s x : Value} {base : Option Addr} {n cap k : Nat} (hs : s = .slice base n cap) {olds vs : List Value}
    (hl : (Builtin.lenOf x).run P w = .ok k w) (ho : (Builtin.firstCells i.size n s).run P w.drew = .ok olds.toArray w.drew) (hf : (Builtin.firstCells i.size k x).run P w.drew = .ok vs.toArray w.drew)
    (hroom : cap < n + k) (h63 : n + k ≤ 9223372036854775807) (hbytes : (n + k) * i.bytes ≤ 140737488355328) :
    ∃ newCap, n + k ≤ newCap ∧ (Builtin.append_ #[t, xt] ty #[s, x]).run P w =
      .ok (.slice (some ⟨w.heap.size, 0, none⟩) (n + k) newCap) (w.drew.alloc (.cells (olds.toArray ++ vs.toArray ++ Builtin.zeroCells z.cells (newCap - (n + k))) e)) := by
  subst hs
  have n1 : ¬ n + k ≤ cap := by omega
  have n2 : ¬ (9223372036854775807 < ((n : Int) + (k : Int))) := by omega
  have n3 : ¬ (281474976710656 < Builtin.nextslicecap (n + k) cap * i.bytes) := by have := growslice_fits hroom hbytes; omega
  refine ⟨grownCap w (n + k) cap e, grownCap_ge w _ _ _, ?_⟩
  have ho' : (Builtin.firstCells i.size n (.slice base n cap)).run P { w with drawn := w.drawn + 1 } = .ok olds.toArray { w with drawn := w.drawn + 1 } := ho
  have hf' : (Builtin.firstCells i.size k x).run P { w with drawn := w.drawn + 1 } = .ok vs.toArray { w with drawn := w.drawn + 1 } := hf
  rcases tyNoInt_some hx with ⟨e', hd⟩ | hd
  · simp [Builtin.append_, run_underlying ht, Go.sizeOf, typeInfo, zeroValue, hi, hz, run_underlying hd, hl, n1, n2, n3, Question.forced, ho, hf, newRow, grownCap]
    congr 2
    apply Array.ext'
    simp [List.append_assoc]
  · simp [Builtin.append_, run_underlying ht, Go.sizeOf, typeInfo, zeroValue, hi, hz, run_underlying hd, hl, n1, n2, n3, Question.forced, ho, hf, newRow, grownCap]
    congr 2
    apply Array.ext'
    simp [List.append_assoc]

theorem run_append_none {P : Program} {w : World} {t xt e : TypeId} {i : TypeInfo} (ht : P.underlying t = some (.slice e)) (hi : P.info? e = some i) (hx : tyNoInt P xt = true) (ty : TypeId) {x : Value} {vs : List Value}
    (hl : (Builtin.lenOf x).run P w = .ok 0 w) (hf : (Builtin.firstCells i.size 0 x).run P w = .ok vs.toArray w) :
    (Builtin.append_ #[t, xt] ty #[.slice none 0 0, x]).run P w = .ok (.slice none 0 0) w := by
  rcases tyNoInt_some hx with ⟨e', hd⟩ | hd
  · simp [Builtin.append_, run_underlying ht, Go.sizeOf, typeInfo, hi, run_underlying hd, hl, hf]
  · simp [Builtin.append_, run_underlying ht, Go.sizeOf, typeInfo, hi, run_underlying hd, hl, hf]

theorem over_tail (cs xs : List AV) (o k : Nat) (h : o + k ≤ cs.length) : ((over cs (o + k) xs).drop o).take (k + xs.length) = (cs.drop o).take k ++ xs := by
  unfold over
  rw [List.append_assoc, List.drop_append_of_le_length (by simp; omega), List.drop_take, show o + k - o = k by omega, ← List.append_assoc]
  rw [List.take_append_of_le_length (by simp; omega)]
  rw [List.take_of_length_le (by simp; omega)]

theorem Inv.rowAt {m ro H w} (hi : Inv m ro H w) {b : Nat} {x' : Blk} {g' : Nat} {cs' : List AV} (hx' : x' = .cells g' cs') (hg : ∀ g₁ l, m b g₁ = some l → g₁ < g')
    {H' : Hp} (hH' : ∀ b₁, H' b₁ = if b₁ = b then some x' else H b₁) {c : Array Value} {t : TypeId} {vs : List Value} (hv : VsRel m ro w cs' vs) (ho : ∀ v ∈ vs, v.oneCell' = true) (hc : ∀ (j : Nat) (v : Value), vs[j]? = some v → c[j]? = some v) :
    let m' : Mp := fun b₁ g₁ => if b₁ = b ∧ g₁ = g' then some (.at w.heap.size 0) else m b₁ g₁
    Inv m' ro H' (w.drew.alloc (.cells c t)) ∧ Step m ro H w m' ro H' (w.drew.alloc (.cells c t)) := by
  intro m'
  subst hx'
  have hsz : w.drew.heap.size = w.heap.size := rfl
  have hheap := alloc_heap w.drew (.cells c t)
  rw [hsz] at hheap
  refine hi.change (m' := m') b (.cells g' cs') g' w.heap.size 0 rfl (fun _ _ => rfl) hH' (fun g l h => Nat.le_of_lt (hg g l h)) (fun l h => absurd (hg g' l h) (Nat.lt_irrefl _)) (.inl (Nat.le_refl _))
    (by simp) (by simp) rfl rfl rfl (fun k hk _ => alloc_old w.drew _ hk) (fun c t fr h => ?_) (fun keep => ?_)
  · have : w.heap[w.heap.size]? = none := Array.getElem?_eq_none (Nat.le_refl _)
    rw [this] at h
    simp at h
  · intro loc h
    simp only [m', true_and, and_self, if_true, Option.some.injEq] at h
    subst h
    refine ⟨c, t, hheap, fun i a hia => ?_⟩
    obtain ⟨v, h1, h2⟩ := hv.get hia
    exact ⟨v, by simpa using hc i v h1, ho v (List.mem_of_getElem? h1), keep a v h2⟩

theorem append_get {olds vs : List Value} {r : Array Value} (j : Nat) (v : Value) (h : (olds ++ vs)[j]? = some v) : (olds.toArray ++ vs.toArray ++ r)[j]? = some v := by
  have h1 : ((olds.toArray ++ vs.toArray ++ r).toList)[j]? = some v := by
    simp only [Array.toList_append]
    rw [List.getElem?_append_left (by have := (List.getElem?_eq_some_iff.1 h).1; simpa using this)]
    exact h
  rwa [Array.getElem?_toList] at h1

theorem exec_append {P : Program} {o : Oper} {a : Act} {c : Call} {w : World} {x y : Operand} {t xt : TypeId} (ho : o.op = .call c) (hc : c.callee = .builtin .append) (ha : c.args = #[x, y]) (ht : c.argTypes = #[t, xt]) {v : Value} {w' : World}
    (hr : (Builtin.append_ #[t, xt] o.type #[a.eval x, a.eval y]).run P w = .ok v w') : (execOp a.eval o).run P w = .ok (.value v) w' := by
  simp [execOp, ho, resolve, hc, ha, ht, invoke, builtin, hr]

theorem sem_append_hs {P : Program} {o : Oper} {ρ n} {c : Call} {x y : Operand} {t xt e : TypeId} {z by' b g i N es cs k xs nd} (ho : o.op = .call c) (hc : c.callee = .builtin .append) (ha : c.args = #[x, y]) (ht : c.argTypes = #[t, xt])
    (he : tyElem P t = some e) (hz : tyE P e = some (z, by')) (hno : tyNoInt P xt = true) (h1 : ρ x = .hs b g i N es) (hes : z.length = es)
    (hfit : i + N * es ≤ cs.length) (hx : XSem P (ρ y) es nd k xs) (hxl : xs.length = k * es) (h63 : N + k ≤ 9223372036854775807) (hbytes : (N + k) * by' ≤ 140737488355328) :
    OpSem P o ρ n { v := .hs b (g + 1) 0 (N + k) es, need := (b, .cells g cs) :: nd, upd := some (b, .cells (g + 1) ((cs.drop i).take (N * es) ++ xs)) } := by
  obtain ⟨ie, zv, hinfo, hzero, ⟨hzs, hone⟩, rfl, hby, hlen⟩ := tyE_some hz
  have hu := tyElem_some he
  rw [hes] at hlen
  subst hlen
  subst hby
  intro m ro H w a hi hr hn hf next Q kk
  have e1 := hr x (by simp [ho, Op.operands, Call.operands, hc, ha])
  have e2 := hr y (by simp [ho, Op.operands, Call.operands, hc, ha])
  rw [h1] at e1
  simp only [VRel] at e1
  obtain ⟨loc, hm, hh⟩ := e1
  have hb := hn (b, .cells g cs) (by simp)
  simp only at hb
  obtain ⟨vs, v1, v2, v3⟩ := hx m ro H w (a.eval y) hi e2 (fun p hp => hn p (by simp [hp]))
  have hvl : vs.length = k * ie.size := by rw [← v1.length]; exact hxl
  have hgen : ∀ g₁ l, m b g₁ = some l → g₁ < g + 1 := fun g₁ l h => Nat.lt_succ_of_le (hi.gen b _ g hb rfl g₁ l h)
  have hmne : ∀ (m' : Mp) (l : Loc), (m' = fun b₁ g₁ => if b₁ = b ∧ g₁ = g + 1 then some l else m b₁ g₁) → ∀ b' g₁, m' b' g₁ ≠ m b' g₁ →
      (∃ y, (some (b, Blk.cells (g + 1) ((cs.drop i).take (N * ie.size) ++ xs)) : Option (Nat × Blk)) = some (b', y)) ∨ (b' = n ∧ (none : Option Blk).isSome) := by
    intro m' l e b' g₁ hne
    subst e
    by_cases hcc : b' = b ∧ g₁ = g + 1
    · exact .inl ⟨_, by rw [hcc.1]⟩
    · simp [hcc] at hne
  obtain ⟨vold, w1, w2, w3⟩ : ∃ vold : List Value, VsRel m ro w ((cs.drop i).take (N * ie.size)) vold ∧ (∀ v ∈ vold, v.oneCell' = true) ∧ (∀ w' : World, w'.heap = w.heap → (Builtin.firstCells ie.size N (a.eval x)).run P w' = .ok vold.toArray w') := by
    cases loc with
    | void =>
      simp only [HsRel] at hh
      obtain ⟨hv, rfl, rfl⟩ := hh
      exact ⟨[], by simp [VsRel], by simp, fun w' _ => by rw [hv]; simp [Builtin.firstCells]⟩
    | «at» cb base =>
      simp only [HsRel] at hh
      obtain ⟨cap, hv, _⟩ := hh
      obtain ⟨vs, h1, h2, h3⟩ := hi.cellsAt hb rfl hm i (N * ie.size)
      refine ⟨vs, h1, h2, fun w' hw => ?_⟩
      have hl : vs.length = N * ie.size := by rw [← h1.length]; simp; omega
      rw [hv]
      exact run_firstCells_some (P := P) w' ie.size N ⟨cb, base + i, none⟩ N cap vs hl (fun j v hj => by rw [addr_add, cell?_of_heap (w := w) (by rw [hw])]; exact h3 j v hj)
  have growth : ∀ (base : Option Addr) (cap : Nat), a.eval x = .slice base N cap → cap < N + k → o.wp P a w next Q := by
    intro base cap hv hroom
    obtain ⟨newCap, hcap, hrun⟩ := run_append_out (P := P) hu hinfo hzero hno o.type hv (v3 w rfl).1 (w3 w.drew rfl) (v3 w.drew rfl).2 hroom h63 hbytes
    have hex := exec_append ho hc ha ht hrun
    obtain ⟨k1, k2⟩ := hi.rowAt (b := b) (g' := g + 1) rfl hgen (H' := app H n { v := .hs b (g + 1) 0 (N + k) ie.size, need := (b, .cells g cs) :: nd, upd := some (b, .cells (g + 1) ((cs.drop i).take (N * ie.size) ++ xs)) })
      (fun b₁ => by simp only [app]) (w1.append v1) (by simp only [List.mem_append]; rintro v (h | h); exact w2 v h; exact v2 v h) (c := vold.toArray ++ vs.toArray ++ Builtin.zeroCells zv.cells (newCap - (N + k))) (t := e) (fun j v hj => append_get j v hj)
    unfold Oper.wp
    rw [hex]
    refine kk _ _ _ _ ?_ k1 k2 (hmne _ _ rfl)
    simp only [VRel]
    refine ⟨.at w.heap.size 0, by simp, newCap, by simp, hcap, _, e, (0, 0), alloc_heap w.drew _, ?_⟩
    have hvo : vold.length = N * ie.size := by rw [← w1.length]; simp; omega
    simp only [Array.size_append, List.size_toArray, hvo, hvl, size_zeroCells, hzs, Nat.zero_add, ← Nat.add_mul]
    exact Nat.mul_le_mul_right _ (by omega)
  cases loc with
  | void =>
    simp only [HsRel] at hh
    obtain ⟨hv, rfl, rfl⟩ := hh
    rcases Nat.eq_zero_or_pos k with rfl | hk
    · have hrun := run_append_none (P := P) hu hinfo hno o.type (v3 w rfl).1 (v3 w rfl).2
      rw [← hv] at hrun
      have hex := exec_append ho hc ha ht hrun
      have hxs : xs = [] := List.eq_nil_of_length_eq_zero (by simpa using hxl)
      obtain ⟨k1, k2⟩ := hi.change₀ (ro' := ro) (m' := fun b₁ g₁ => if b₁ = b ∧ g₁ = g + 1 then some .void else m b₁ g₁) (H' := app H n { v := .hs b (g + 1) 0 (0 + 0) ie.size, need := (b, .cells g cs) :: nd, upd := some (b, .cells (g + 1) ((cs.drop 0).take (0 * ie.size) ++ xs)) })
        b (.cells (g + 1) ((cs.drop 0).take (0 * ie.size) ++ xs))
        (fun b₁ g₁ l h => by
          by_cases hcc : b₁ = b ∧ g₁ = g + 1
          · obtain ⟨rfl, rfl⟩ := hcc; exact absurd (hgen _ _ h) (Nat.lt_irrefl _)
          · simp only [hcc, if_false]; exact h)
        (fun b₁ g₁ => by
          by_cases hcc : b₁ = b ∧ g₁ = g + 1
          · exact .inr ⟨hcc.1, by rw [hcc.2]; rfl, by simp [hcc]⟩
          · exact .inl (by simp [hcc]))
        (fun b₁ => by simp only [app])
        (fun g₁ cb base h => by simp only [Blk.own, Option.some.injEq] at h; subst h; simp)
        (fun g₁ h g₂ l h2 => by
          simp only [Blk.own, Option.some.injEq] at h
          subst h
          by_cases hcc : g₂ = g + 1
          · omega
          · simp only [hcc, and_false, if_false] at h2; exact Nat.le_of_lt (hgen _ _ h2))
        (fun _ h => h) (fun _ h => .inl h)
        (fun _ loc h => by
          simp only [true_and, and_self, if_true, Option.some.injEq] at h
          subst h
          show List.take (0 * ie.size) (List.drop 0 cs) ++ xs = []
          rw [hxs, Nat.zero_mul]
          rfl)
      unfold Oper.wp
      rw [hex]
      refine kk _ _ _ _ ?_ k1 k2 (hmne _ _ rfl)
      simp only [VRel]
      exact ⟨.void, by simp, by simp [HsRel, hv]⟩
    · exact growth none 0 hv (by omega)
  | «at» cb base =>
    simp only [HsRel] at hh
    obtain ⟨cap, hv, hle, cc, t', fr, hcc, hsz⟩ := hh
    obtain ⟨c0, t0, hc0, hlay⟩ := hi.blk b _ hb _ hm
    rw [hc0] at hcc
    simp only [Option.some.injEq, Obj.cells.injEq] at hcc
    obtain ⟨rfl, rfl, rfl⟩ := hcc
    by_cases hroom : N + k ≤ cap
    · have hmul : (N + k) * ie.size ≤ cap * ie.size := Nat.mul_le_mul_right _ hroom
      rw [Nat.add_mul] at hmul
      have hrun := run_append_in (P := P) hu hinfo hno o.type hc0 (v3 w rfl).1 (v3 w rfl).2 v2 hroom (by omega : base + i + N * ie.size + vs.length ≤ c0.size)
      rw [← hv] at hrun
      have hex := exec_append ho hc ha ht hrun
      have hl1 := over_lay hlay (i + N * ie.size) v1 v2 (by omega) (by omega)
      have hl2 := (hl1.drop i).take (N * ie.size + xs.length)
      rw [over_tail cs xs i (N * ie.size) (by omega)] at hl2
      rw [← Nat.add_assoc base i] at hl2
      obtain ⟨k1, k2⟩ := hi.write (n := n) hb hm hc0 (c0.toList.take (base + i + N * ie.size) ++ vs ++ c0.toList.drop (base + i + N * ie.size + vs.length)).toArray
        (by simp only [List.size_toArray, List.length_append, List.length_take, List.length_drop, Array.length_toList]; omega) (g + 1) (base + i) (Nat.le_succ _) (fun h => absurd h (by omega)) ((cs.drop i).take (N * ie.size) ++ xs) (v := .hs b (g + 1) 0 (N + k) ie.size) (nd := (b, .cells g cs) :: nd) hl2
      unfold Oper.wp
      rw [hex]
      refine kk _ _ _ _ ?_ k1 k2 (hmne _ _ rfl)
      simp only [VRel]
      refine ⟨.at cb (base + i), by simp, cap, by simp, hroom, _, t0, (0, 0), setRow_heap w cb c0 _ t0 (0, 0) hc0, ?_⟩
      simp only [List.size_toArray, List.length_append, List.length_take, List.length_drop, Array.length_toList]
      omega
    · exact growth _ cap hv (by omega)

end Tab

/- More of the abstract machine's operations: append to nil, slicing, ranging over a string, closures, interfaces, max and min. -/
namespace Tab
open Go
variable [Globs]

theorem sem_append_nil {P : Program} {o : Oper} {ρ n} {c : Call} {x y : Operand} {t xt e : TypeId} {z by' es k xs nd} (ho : o.op = .call c) (hc : c.callee = .builtin .append) (ha : c.args = #[x, y]) (ht : c.argTypes = #[t, xt])
    (he : tyElem P t = some e) (hz : tyE P e = some (z, by')) (hno : tyNoInt P xt = true) (h1 : ρ x = .sl .nil 0 []) (hes : z.length = es)
    (hx : XSem P (ρ y) es nd k xs) (hxl : xs.length = k * es) (h63 : k ≤ 9223372036854775807) (hbytes : k * by' ≤ 140737488355328) :
    OpSem P o ρ n { v := .hs n 0 0 k es, need := nd, new := some (.cells 0 xs) } := by
  obtain ⟨ie, zv, hinfo, hzero, ⟨hzs, hone⟩, rfl, hby, hlen⟩ := tyE_some hz
  have hu := tyElem_some he
  rw [hes] at hlen
  subst hlen
  subst hby
  intro m ro H w a hi hr hn hf next Q kk
  obtain ⟨hHn, hmn⟩ := hf _ rfl
  have e1 := hr x (by simp [ho, Op.operands, Call.operands, hc, ha])
  have e2 := hr y (by simp [ho, Op.operands, Call.operands, hc, ha])
  rw [h1] at e1
  have hv : a.eval x = .slice none 0 0 := by
    simp only [VRel] at e1
    rcases e1 with ⟨_, h, _⟩ | ⟨h, _⟩
    · exact h
    · exact absurd rfl h
  obtain ⟨vs, v1, v2, v3⟩ := hx m ro H w (a.eval y) hi e2 hn
  have hvl : vs.length = k * ie.size := by rw [← v1.length]; exact hxl
  have hmne : ∀ (m' : Mp) (l : Loc), (m' = fun b₁ g₁ => if b₁ = n ∧ g₁ = 0 then some l else m b₁ g₁) → ∀ b' g₁, m' b' g₁ ≠ m b' g₁ →
      (∃ y, (none : Option (Nat × Blk)) = some (b', y)) ∨ (b' = n ∧ (some (Blk.cells 0 xs)).isSome) := by
    intro m' l e b' g₁ hne
    subst e
    by_cases hcc : b' = n ∧ g₁ = 0
    · exact .inr ⟨hcc.1, rfl⟩
    · simp [hcc] at hne
  rcases Nat.eq_zero_or_pos k with rfl | hk
  · have hrun := run_append_none (P := P) hu hinfo hno o.type (v3 w rfl).1 (v3 w rfl).2
    rw [← hv] at hrun
    have hex := exec_append ho hc ha ht hrun
    have hxs : xs = [] := List.eq_nil_of_length_eq_zero (by simpa using hxl)
    obtain ⟨k1, k2⟩ := hi.change₀ (ro' := ro) (m' := fun b₁ g₁ => if b₁ = n ∧ g₁ = 0 then some .void else m b₁ g₁) (H' := app H n { v := .hs n 0 0 0 ie.size, need := nd, new := some (.cells 0 xs) })
      n (.cells 0 xs)
      (fun b₁ g₁ l h => by
        by_cases hcc : b₁ = n ∧ g₁ = 0
        · obtain ⟨rfl, rfl⟩ := hcc; rw [hmn] at h; simp at h
        · simp only [hcc, if_false]; exact h)
      (fun b₁ g₁ => by
        by_cases hcc : b₁ = n ∧ g₁ = 0
        · exact .inr ⟨hcc.1, by rw [hcc.2]; rfl, by simp [hcc]⟩
        · exact .inl (by simp [hcc]))
      (fun b₁ => by simp only [app])
      (fun g₁ cb base h => by simp only [Blk.own, Option.some.injEq] at h; subst h; simp)
      (fun g₁ h g₂ l h2 => by
        by_cases hcc : g₂ = 0
        · omega
        · simp only [hcc, and_false, if_false] at h2; rw [hmn] at h2; simp at h2)
      (fun _ h => h) (fun _ h => .inl h)
      (fun _ loc h => by
        simp only [and_self, if_true, Option.some.injEq] at h
        subst h
        exact hxs)
    unfold Oper.wp
    rw [hex]
    refine kk _ _ _ _ ?_ k1 k2 (hmne _ _ rfl)
    simp only [VRel]
    exact ⟨.void, by simp, by simp [HsRel, hv]⟩
  · obtain ⟨newCap, hcap, hrun⟩ := run_append_out (P := P) (olds := []) hu hinfo hzero hno o.type hv (v3 w rfl).1 (by rw [hv]; simp [Builtin.firstCells]) (v3 w.drew rfl).2 (by omega) (by omega) (by rwa [Nat.zero_add])
    have hex := exec_append ho hc ha ht hrun
    obtain ⟨k1, k2⟩ := hi.rowAt (b := n) (g' := 0) rfl (fun g l h => by rw [hmn] at h; simp at h) (H' := app H n { v := .hs n 0 0 k ie.size, need := nd, new := some (.cells 0 xs) })
      (fun b₁ => by simp only [app]) v1 v2 (c := (#[] : Array Value) ++ vs.toArray ++ Builtin.zeroCells zv.cells (newCap - (0 + k))) (t := e) (fun j v hj => append_get (olds := []) j v hj)
    unfold Oper.wp
    rw [hex]
    refine kk _ _ _ _ ?_ k1 k2 (hmne _ _ rfl)
    simp only [VRel]
    refine ⟨.at w.heap.size 0, by simp, newCap, by simp, by omega, _, e, (0, 0), alloc_heap w.drew _, ?_⟩
    simp only [Array.size_append, List.size_toArray, hvl, size_zeroCells, hzs, Nat.zero_add, ← Nat.add_mul, List.size_toArray, List.length_nil]
    exact Nat.mul_le_mul_right _ (by omega)


def SK.cut : SK → SK
  | .nil => .nil
  | .any => .any
  | _ => .nn

def optI (ρ : Operand → AV) : Option Operand → Option (Option Int)
  | none => some none
  | some x => match ρ x with | .int _ i => some (some i) | _ => none

def BndRel (a : Act) (x : Option Operand) (r : Option Int) : Prop := (x = none ∧ r = none) ∨ ∃ k i, r = some i ∧ x.map a.eval = some (.int k i)

theorem optI_rel {m ro w} {ρ : Operand → AV} {a : Act} {x : Option Operand} {r : Option Int} (h : optI ρ x = some r) (hx : ∀ y, x = some y → VRel m ro w (ρ y) (a.eval y)) : BndRel a x r := by
  cases x with
  | none => simp only [optI, Option.some.injEq] at h; subst h; exact .inl ⟨rfl, rfl⟩
  | some y =>
    simp only [optI] at h
    split at h
    · rename_i k i hy
      have := hx y rfl
      rw [hy] at this
      simp only [VRel] at this
      simp only [Option.some.injEq] at h
      subst h
      exact .inr ⟨k, i, rfl, by simp [this]⟩
    · simp at h

theorem run_sliceBound {P : Program} {w : World} {k : IntKind} {i : Int} {y : Nat} {code : BoundsCode} (h0 : 0 ≤ i) (h1 : i ≤ y) : (Instr.sliceBound (.int k i) y code).run P w = .ok i.toNat w := by
  simp [Instr.sliceBound, asIntOf, h0, h1]

theorem run_sliceBounds {P : Program} {w : World} {b : Bool} {len cap : Nat} {lo hi : Option Value} {l h : Int}
    (hlo : (lo = none ∧ l = 0) ∨ ∃ k, lo = some (.int k l)) (hhi : (hi = none ∧ h = len) ∨ ∃ k, hi = some (.int k h)) (h0 : 0 ≤ l) (h1 : l ≤ h) (h2 : h ≤ cap) :
    (Instr.sliceBounds b len cap lo hi none).run P w = .ok (l.toNat, h.toNat, cap) w := by
  rcases hlo with ⟨rfl, rfl⟩ | ⟨k, rfl⟩ <;> rcases hhi with ⟨rfl, rfl⟩ | ⟨k', rfl⟩
  · simp [Instr.sliceBounds]
  · simp [Instr.sliceBounds, run_sliceBound (P := P) (w := w) (show 0 ≤ h by omega) h2]
  · have h3 : l ≤ ((len : Int).toNat : Int) := by omega
    simp only [Instr.sliceBounds, Sem.run_bind, Sem.run_pure, Result.andThen_ok, run_sliceBound (P := P) (w := w) h0 h3, Option.isSome_none, Bool.false_eq_true, if_false, Int.toNat_natCast]
    rw [show (len : Int).toNat = len from by simp] at h3
    simp only [run_sliceBound (P := P) (w := w) h0 h3, Result.andThen_ok]
  · have h3 : l ≤ (h.toNat : Int) := by omega
    simp [Instr.sliceBounds, run_sliceBound (P := P) (w := w) (show 0 ≤ h by omega) h2, run_sliceBound (P := P) (w := w) h0 h3]

theorem slice_operands {o : Oper} {t : TypeId} {x : Operand} {lo hi mx : Option Operand} (ho : o.op = .slice t x lo hi mx) :
    x ∈ o.op.operands ∧ (∀ y, lo = some y → y ∈ o.op.operands) ∧ (∀ y, hi = some y → y ∈ o.op.operands) ∧ (∀ y, mx = some y → y ∈ o.op.operands) := by
  rw [ho]
  refine ⟨by simp [Op.operands], fun y h => ?_, fun y h => ?_, fun y h => ?_⟩ <;> (subst h; simp [Op.operands])

theorem lo_of {a : Act} {x : Option Operand} {r : Option Int} (h : BndRel a x r) : (x.map a.eval = none ∧ r.getD 0 = 0) ∨ ∃ k, x.map a.eval = some (.int k (r.getD 0)) := by
  rcases h with ⟨rfl, rfl⟩ | ⟨k, i, rfl, h⟩
  · exact .inl ⟨rfl, rfl⟩
  · exact .inr ⟨k, h⟩
theorem hi_of {a : Act} {x : Option Operand} {r : Option Int} {N : Nat} (h : BndRel a x r) : (x.map a.eval = none ∧ r.getD (N : Int) = (N : Int)) ∨ ∃ k, x.map a.eval = some (.int k (r.getD (N : Int))) := by
  rcases h with ⟨rfl, rfl⟩ | ⟨k, i, rfl, h⟩
  · exact .inl ⟨rfl, rfl⟩
  · exact .inr ⟨k, h⟩

theorem sem_slice_sl {P : Program} {o : Oper} {ρ n t x e z by' k} {N : Nat} {cs : List AV} {lo hi : Option Operand} {rl rh : Option Int} (ho : o.op = .slice t x lo hi none) (h1 : ρ x = .sl k N cs)
    (hlo : optI ρ lo = some rl) (hhi : optI ρ hi = some rh) (he : tyElem P t = some e) (hz : tyE P e = some (z, by'))
    (h0 : 0 ≤ rl.getD 0) (h2 : rl.getD 0 ≤ rh.getD (N : Int)) (h3 : rh.getD (N : Int) ≤ N) :
    OpSem P o ρ n { v := .sl k.cut ((rh.getD (N : Int)).toNat - (rl.getD 0).toNat) ((cs.drop ((rl.getD 0).toNat * z.length)).take (((rh.getD (N : Int)).toNat - (rl.getD 0).toNat) * z.length)) } := by
  obtain ⟨ie, zv, hinfo, hzero, ⟨hzs, hone⟩, _, hby, hlen⟩ := tyE_some hz
  have hu := tyElem_some he
  refine OpSem.value fun m ro H w a hi' hx _ => ?_
  obtain ⟨m1, m2, m3, _⟩ := slice_operands ho
  have e1 := hx x m1
  rw [h1] at e1
  simp only [VRel] at e1
  have c1 := lo_of (optI_rel (a := a) hlo (fun y h => hx y (m2 y h)))
  have c2 := hi_of (N := N) (optI_rel (a := a) hhi (fun y h => hx y (m3 y h)))
  rcases e1 with ⟨hk, e1, rfl, rfl⟩ | ⟨hk, ad, cap, e1, hle, hfull, hc⟩
  · have b1 : rl.getD 0 = 0 := by omega
    have b2 : rh.getD ((0 : Nat) : Int) = 0 := by omega
    rw [b1] at c1 h0 h2 ⊢
    rw [b2] at c2 h2 h3 ⊢
    have hb := run_sliceBounds (P := P) (w := w) (b := true) (len := 0) (cap := 0) c1 c2 (by omega) (by omega) (by omega)
    refine ⟨.slice none 0 0, ?_, ?_⟩
    · simp [execOp, ho, e1, Instr.sliceAt, run_underlying' hu, Instr.slice, hb, run_sizeOf' hinfo]
    · simp only [VRel]
      exact .inl ⟨by rcases hk with rfl | rfl <;> simp [SK.cut], by simp, by simp, by simp⟩
  · have hb := run_sliceBounds (P := P) (w := w) (b := true) (len := N) (cap := cap) c1 c2 h0 h2 (by omega)
    have hex : (execOp a.eval o).run P w = .ok (.value (.slice (if cap = (rl.getD 0).toNat then some ad else some (ad.add ((rl.getD 0).toNat * ie.size))) ((rh.getD (N : Int)).toNat - (rl.getD 0).toNat) (cap - (rl.getD 0).toNat))) w := by
      simp only [execOp, ho, e1, Option.map_none, Sem.run_bind, Sem.run_pure, Instr.sliceAt, run_underlying' hu, Result.andThen_ok, Instr.slice, hb, run_sizeOf' hinfo, Option.map_some]
    refine ⟨_, hex, ?_⟩
    simp only [VRel]
    refine .inr ⟨by cases k <;> simp_all [SK.cut], ?_⟩
    rw [← hlen]
    by_cases hcl : cap = (rl.getD 0).toNat
    · refine ⟨ad, cap - (rl.getD 0).toNat, by simp [hcl], by omega, by cases k <;> simp [SK.cut], .inl ⟨by omega, ?_⟩⟩
      have : (rh.getD (N : Int)).toNat - (rl.getD 0).toNat = 0 := by omega
      rw [this, Nat.zero_mul]
      simp
    · refine ⟨ad.add ((rl.getD 0).toNat * ie.size), cap - (rl.getD 0).toNat, by simp [hcl], by omega, by cases k <;> simp [SK.cut], ?_⟩
      rcases hc with ⟨rfl, rfl⟩ | ⟨hsp, hc⟩
      · exact .inl ⟨by omega, by simp⟩
      · obtain ⟨cb, off, sp⟩ := ad
        simp only at hsp hc
        subst hsp
        refine .inr ⟨by rw [addr_add], ?_⟩
        rw [addr_add]
        exact (hc.drop _).take _

theorem run_sliceBounds3 {P : Program} {w : World} {len cap : Nat} {lo : Option Value} {l h m : Int} {k2 k3 : IntKind} (hlo : (lo = none ∧ l = 0) ∨ ∃ k, lo = some (.int k l)) (h0 : 0 ≤ l) (h1 : l ≤ h) (h2 : h ≤ m) (h3 : m ≤ cap) :
    (Instr.sliceBounds true len cap lo (some (.int k2 h)) (some (.int k3 m))).run P w = .ok (l.toNat, h.toNat, m.toNat) w := by
  have e1 : ∀ c, (Instr.sliceBound (.int k3 m) cap c).run P w = .ok m.toNat w := fun c => run_sliceBound (by omega) h3
  have e2 : ∀ c, (Instr.sliceBound (.int k2 h) m.toNat c).run P w = .ok h.toNat w := fun c => run_sliceBound (by omega) (by omega)
  rcases hlo with ⟨rfl, rfl⟩ | ⟨k, rfl⟩
  · simp [Instr.sliceBounds, e1, e2]
  · have e3 : ∀ c, (Instr.sliceBound (.int k l) h.toNat c).run P w = .ok l.toNat w := fun c => run_sliceBound h0 (by omega)
    simp [Instr.sliceBounds, e1, e2, e3]

theorem sem_slice_sl3 {P : Program} {o : Oper} {ρ n t x e z by' k} {N : Nat} {cs : List AV} {lo : Option Operand} {hi mx : Operand} {rl : Option Int} {rh rm : Int} (ho : o.op = .slice t x lo (some hi) (some mx)) (h1 : ρ x = .sl k N cs)
    (hlo : optI ρ lo = some rl) (hhi : optI ρ (some hi) = some (some rh)) (hmx : optI ρ (some mx) = some (some rm)) (he : tyElem P t = some e) (hz : tyE P e = some (z, by'))
    (h0 : 0 ≤ rl.getD 0) (h2 : rl.getD 0 ≤ rh) (h3 : rh ≤ rm) (h4 : rm ≤ N) :
    OpSem P o ρ n { v := .sl k.cut (rh.toNat - (rl.getD 0).toNat) ((cs.drop ((rl.getD 0).toNat * z.length)).take ((rh.toNat - (rl.getD 0).toNat) * z.length)) } := by
  obtain ⟨ie, zv, hinfo, hzero, ⟨hzs, hone⟩, _, hby, hlen⟩ := tyE_some hz
  have hu := tyElem_some he
  refine OpSem.value fun m ro H w a hi' hx _ => ?_
  obtain ⟨m1, m2, m3, m4⟩ := slice_operands ho
  have e1 := hx x m1
  rw [h1] at e1
  simp only [VRel] at e1
  have c1 := lo_of (optI_rel (a := a) hlo (fun y h => hx y (m2 y h)))
  obtain ⟨k2, c2⟩ : ∃ k2, a.eval hi = .int k2 rh := by
    rcases optI_rel (a := a) hhi (fun y h => hx y (m3 y h)) with ⟨h, _⟩ | ⟨k, i, h, h'⟩
    · simp at h
    · simp at h h'; subst h; exact ⟨k, h'⟩
  obtain ⟨k3, c3⟩ : ∃ k3, a.eval mx = .int k3 rm := by
    rcases optI_rel (a := a) hmx (fun y h => hx y (m4 y h)) with ⟨h, _⟩ | ⟨k, i, h, h'⟩
    · simp at h
    · simp at h h'; subst h; exact ⟨k, h'⟩
  rcases e1 with ⟨hk, e1, rfl, rfl⟩ | ⟨hk, ad, cap, e1, hle, hfull, hc⟩
  · have b1 : rl.getD 0 = 0 := by omega
    have b2 : rh = 0 := by omega
    have b3 : rm = 0 := by omega
    rw [b1] at c1 h0 h2 ⊢
    subst b2
    subst b3
    have hb := run_sliceBounds3 (P := P) (w := w) (len := 0) (cap := 0) (k2 := k2) (k3 := k3) c1 (by omega) (by omega) (Int.le_refl 0) (by omega)
    refine ⟨.slice none 0 0, ?_, ?_⟩
    · simp [execOp, ho, e1, c2, c3, Instr.sliceAt, run_underlying' hu, Instr.slice, hb, run_sizeOf' hinfo]
    · simp only [VRel]
      exact .inl ⟨by rcases hk with rfl | rfl <;> simp [SK.cut], by simp, by simp, by simp⟩
  · have hb := run_sliceBounds3 (P := P) (w := w) (len := N) (cap := cap) (k2 := k2) (k3 := k3) c1 h0 h2 h3 (by omega)
    have hex : (execOp a.eval o).run P w = .ok (.value (.slice (if rm.toNat = (rl.getD 0).toNat then some ad else some (ad.add ((rl.getD 0).toNat * ie.size))) (rh.toNat - (rl.getD 0).toNat) (rm.toNat - (rl.getD 0).toNat))) w := by
      simp only [execOp, ho, e1, c2, c3, Option.map_some, Sem.run_bind, Sem.run_pure, Instr.sliceAt, run_underlying' hu, Result.andThen_ok, Instr.slice, hb, run_sizeOf' hinfo]
    refine ⟨_, hex, ?_⟩
    simp only [VRel]
    refine .inr ⟨by cases k <;> simp_all [SK.cut], ?_⟩
    rw [← hlen]
    by_cases hcl : rm.toNat = (rl.getD 0).toNat
    · refine ⟨ad, rm.toNat - (rl.getD 0).toNat, by simp [hcl], by omega, by cases k <;> simp [SK.cut], .inl ⟨by omega, ?_⟩⟩
      have : rh.toNat - (rl.getD 0).toNat = 0 := by omega
      rw [this, Nat.zero_mul]
      simp
    · refine ⟨ad.add ((rl.getD 0).toNat * ie.size), rm.toNat - (rl.getD 0).toNat, by simp [hcl], by omega, by cases k <;> simp [SK.cut], ?_⟩
      rcases hc with ⟨rfl, rfl⟩ | ⟨hsp, hc⟩
      · exact .inl ⟨by omega, by simp⟩
      · obtain ⟨cb, off, sp⟩ := ad
        simp only at hsp hc
        subst hsp
        refine .inr ⟨by rw [addr_add], ?_⟩
        rw [addr_add]
        exact (hc.drop _).take _

theorem sem_slice_hs {P : Program} {o : Oper} {ρ n t x e z by' b g i} {N es : Nat} {lo hi : Option Operand} {rl rh : Option Int} (ho : o.op = .slice t x lo hi none) (h1 : ρ x = .hs b g i N es)
    (hlo : optI ρ lo = some rl) (hhi : optI ρ hi = some rh) (he : tyElem P t = some e) (hz : tyE P e = some (z, by')) (hes : z.length = es)
    (h0 : 0 ≤ rl.getD 0) (h2 : rl.getD 0 ≤ rh.getD (N : Int)) (h3 : rh.getD (N : Int) ≤ N) (h4 : rl.getD 0 = 0 ∨ rl.getD 0 < rh.getD (N : Int)) :
    OpSem P o ρ n { v := .hs b g (i + (rl.getD 0).toNat * es) ((rh.getD (N : Int)).toNat - (rl.getD 0).toNat) es } := by
  obtain ⟨ie, zv, hinfo, hzero, ⟨hzs, hone⟩, _, hby, hlen⟩ := tyE_some hz
  have hu := tyElem_some he
  rw [hes] at hlen
  subst hlen
  refine OpSem.value fun m ro H w a hi' hx _ => ?_
  obtain ⟨m1, m2, m3, _⟩ := slice_operands ho
  have e1 := hx x m1
  rw [h1] at e1
  simp only [VRel] at e1
  have c1 := lo_of (optI_rel (a := a) hlo (fun y h => hx y (m2 y h)))
  have c2 := hi_of (N := N) (optI_rel (a := a) hhi (fun y h => hx y (m3 y h)))
  obtain ⟨loc, hm, hh⟩ := e1
  cases loc with
  | void =>
    simp only [HsRel] at hh
    obtain ⟨e1, rfl, rfl⟩ := hh
    have b1 : rl.getD 0 = 0 := by omega
    have b2 : rh.getD ((0 : Nat) : Int) = 0 := by omega
    rw [b1] at c1 h0 h2 ⊢
    rw [b2] at c2 h2 h3 ⊢
    have hb := run_sliceBounds (P := P) (w := w) (b := true) (len := 0) (cap := 0) c1 c2 (by omega) (by omega) (by omega)
    refine ⟨.slice none 0 0, ?_, ?_⟩
    · simp [execOp, ho, e1, Instr.sliceAt, run_underlying' hu, Instr.slice, hb, run_sizeOf' hinfo]
    · simp only [VRel]
      exact ⟨.void, hm, by simp [HsRel]⟩
  | «at» cb base =>
    simp only [HsRel] at hh
    obtain ⟨cap, e1, hle, c, t', fr, hc, hsz⟩ := hh
    have hb := run_sliceBounds (P := P) (w := w) (b := true) (len := N) (cap := cap) c1 c2 h0 h2 (by omega)
    have hex : (execOp a.eval o).run P w = .ok (.value (.slice (if cap = (rl.getD 0).toNat then some ⟨cb, base + i, none⟩ else some ⟨cb, base + i + (rl.getD 0).toNat * ie.size, none⟩) ((rh.getD (N : Int)).toNat - (rl.getD 0).toNat) (cap - (rl.getD 0).toNat))) w := by
      simp only [execOp, ho, e1, Option.map_none, Sem.run_bind, Sem.run_pure, Instr.sliceAt, run_underlying' hu, Result.andThen_ok, Instr.slice, hb, run_sizeOf' hinfo, Option.map_some, addr_add]
    refine ⟨_, hex, ?_⟩
    simp only [VRel]
    refine ⟨.at cb base, hm, cap - (rl.getD 0).toNat, ?_, by omega, c, t', fr, hc, ?_⟩
    · by_cases hcl : cap = (rl.getD 0).toNat
      · have : (rl.getD 0).toNat = 0 := by omega
        rw [this] at hcl ⊢
        simp [hcl]
      · simp [hcl, Nat.add_assoc]
    · have hl : (rl.getD 0).toNat ≤ cap := by omega
      have : (rl.getD 0).toNat * ie.size + (cap - (rl.getD 0).toNat) * ie.size = cap * ie.size := by rw [← Nat.add_mul]; congr 1; omega
      omega

theorem sem_slice_str {P : Program} {o : Oper} {ρ n t x} {s : List UInt8} {lo hi : Option Operand} {rl rh : Option Int} (ho : o.op = .slice t x lo hi none) (h1 : ρ x = .str s)
    (hlo : optI ρ lo = some rl) (hhi : optI ρ hi = some rh) (ht : isStr P t = true)
    (h0 : 0 ≤ rl.getD 0) (h2 : rl.getD 0 ≤ rh.getD (s.length : Int)) (h3 : rh.getD (s.length : Int) ≤ s.length) :
    OpSem P o ρ n { v := .str ((s.drop (rl.getD 0).toNat).take ((rh.getD (s.length : Int)).toNat - (rl.getD 0).toNat)) } := by
  have hu := isStr_some ht
  refine OpSem.value fun m ro H w a hi' hx _ => ?_
  obtain ⟨m1, m2, m3, _⟩ := slice_operands ho
  have e1 := hx x m1
  rw [h1] at e1
  simp only [VRel] at e1
  have c1 := lo_of (optI_rel (a := a) hlo (fun y h => hx y (m2 y h)))
  have c2 := hi_of (N := s.length) (optI_rel (a := a) hhi (fun y h => hx y (m3 y h)))
  have hb := run_sliceBounds (P := P) (w := w) (b := false) (len := (ByteArray.mk s.toArray).size) (cap := (ByteArray.mk s.toArray).size) c1 (by rw [ba_size]; exact c2) h0 h2 (by rw [ba_size]; exact h3)
  refine ⟨.string ((ByteArray.mk s.toArray).extract (rl.getD 0).toNat (rh.getD (s.length : Int)).toNat), ?_, ?_⟩
  · simp [execOp, ho, e1, Instr.sliceAt, run_underlying' hu, Instr.slice, hb]
  · simp only [VRel]
    congr 1
    rw [ByteArray.extract_mk]


theorem sem_range_str {P : Program} {o : Oper} {ρ n t x} {s : List UInt8} (ho : o.op = .range t x) (h1 : ρ x = .str s) (ht : isStr P t = true) :
    OpSem P o ρ n { v := .ref n 0 0, new := some (.siter s 0) } := by
  have hu := isStr_some ht
  intro m ro H w a hi hx hn hf next Q kk
  obtain ⟨hHn, hmn⟩ := hf _ rfl
  have e1 := hx x (by simp [ho, Op.operands])
  rw [h1] at e1
  simp only [VRel] at e1
  have hex : (execOp a.eval o).run P w = .ok (.value (.pointer (some ⟨w.heap.size, 0, none⟩))) (w.alloc (.stringIter ⟨s.toArray⟩ 0)) := by
    simp [execOp, ho, e1, Instr.range, run_underlying' hu]
  obtain ⟨k1, k2⟩ := hi.change (m' := fun b₁ g₁ => if b₁ = n ∧ g₁ = 0 then some (.at w.heap.size 0) else m b₁ g₁) (H' := app H n { v := .ref n 0 0, new := some (.siter s 0) }) (w' := w.alloc (.stringIter ⟨s.toArray⟩ 0)) n (.siter s 0) 0 w.heap.size 0 rfl (fun _ _ => rfl) (fun b => by simp only [app])
    (fun g l h => by simp [hmn] at h) (fun l h => by simp [hmn] at h) (.inl (Nat.le_refl _)) (by simp) (by simp) rfl rfl rfl (fun c hc _ => alloc_old w _ hc)
    (fun c t fr h => by
      have : w.heap[w.heap.size]? = none := Array.getElem?_eq_none (Nat.le_refl _)
      rw [this] at h
      simp at h)
    (fun keep loc h => by
      simp only [and_self, if_true, Option.some.injEq] at h
      exact ⟨w.heap.size, h.symm, alloc_heap w _⟩)
  unfold Oper.wp
  rw [hex]
  refine kk _ _ _ _ ?_ k1 k2 (fun b g hne => ?_)
  · simp only [VRel]; exact ⟨w.heap.size, 0, by simp, rfl⟩
  · by_cases hc : b = n ∧ g = 0
    · exact .inr ⟨hc.1, rfl⟩
    · simp [hc] at hne

def dec (s : List UInt8) (pos : Nat) : Nat × Nat := Utf8.decode ⟨s.toArray⟩ pos

theorem sem_next_end {P : Program} {o : Oper} {ρ n x b} {s : List UInt8} {pos : Nat} (ho : o.op = .next x true) (h1 : ρ x = .ref b 0 0) (hp : s.length ≤ pos) :
    OpSem P o ρ n { v := .tup [.bool false], need := [(b, .siter s pos)] } := by
  refine OpSem.value fun m ro H w a hi hx hn => ?_
  have e1 := hx x (by simp [ho, Op.operands])
  rw [h1] at e1
  simp only [VRel] at e1
  obtain ⟨cb, base, hm, e1⟩ := e1
  have hb := hn (b, .siter s pos) (by simp)
  obtain ⟨cb', e, hc⟩ := hi.blk b _ hb _ hm
  simp only [Loc.at.injEq] at e
  obtain ⟨rfl, rfl⟩ := e
  refine ⟨.tuple #[.bool false], ?_, ?_⟩
  · have hlt := (Array.getElem?_eq_some_iff.1 hc).1
    simp [execOp, ho, e1, Instr.next, getObj, Sem.run, hc, ba_size, Nat.not_lt.2 hp]
  · simp only [VRel]; exact ⟨_, rfl, by simp [VsRel, VRel]⟩

theorem sem_next_some {P : Program} {o : Oper} {ρ n x b} {s : List UInt8} {pos : Nat} (ho : o.op = .next x true) (h1 : ρ x = .ref b 0 0) (hp : pos < s.length) :
    OpSem P o ρ n { v := .tup [.bool true, .int .i64 pos, .int .i32 (dec s pos).1], need := [(b, .siter s pos)], upd := some (b, .siter s (pos + (dec s pos).2)) } := by
  intro m ro H w a hi hx hn hf next Q kk
  have e1 := hx x (by simp [ho, Op.operands])
  rw [h1] at e1
  simp only [VRel] at e1
  obtain ⟨cb, base, hm, e1⟩ := e1
  have hb := hn (b, .siter s pos) (by simp)
  obtain ⟨cb', e, hc⟩ := hi.blk b _ hb _ hm
  simp only [Loc.at.injEq] at e
  obtain ⟨rfl, rfl⟩ := e
  have hlt := (Array.getElem?_eq_some_iff.1 hc).1
  let w' : World := { w with heap := w.heap.setIfInBounds cb (.stringIter ⟨s.toArray⟩ (pos + (dec s pos).2)) }
  have hex : (execOp a.eval o).run P w = .ok (.value (.tuple #[.bool true, .int .i64 pos, .int .i32 (dec s pos).1])) w' := by
    simp [execOp, ho, e1, Instr.next, getObj, setObj, Sem.run, hc, ba_size, hp, dec, goInt, w']
  have hself : w'.heap[cb]? = some (.stringIter ⟨s.toArray⟩ (pos + (dec s pos).2)) := by
    simp [w', hlt]
  obtain ⟨k1, k2⟩ := hi.change (m' := m) (H' := app H n { v := .tup [.bool true, .int .i64 pos, .int .i32 (dec s pos).1], need := [(b, .siter s pos)], upd := some (b, .siter s (pos + (dec s pos).2)) }) (w' := w') b (.siter s (pos + (dec s pos).2)) 0 cb 0 rfl
    (fun b₁ g₁ => by split <;> simp_all) (fun b => by simp only [app]) (fun g l h => hi.gen b _ 0 hb rfl g l h) (fun l h => by rw [hm] at h; cases h; rfl) (.inr ⟨_, 0, 0, hb, rfl, hm⟩) (by simp [w', hlt]) (by simp [w']) rfl rfl rfl
    (fun c hc hne => by simp [w', Ne.symm hne]) (fun c t fr h => by rw [hc] at h; simp at h)
    (fun keep loc h => by
      rw [hm] at h
      exact ⟨cb, by simpa using h.symm, hself⟩)
  unfold Oper.wp
  rw [hex]
  refine kk _ _ _ _ ?_ k1 k2 (fun b g hne => absurd rfl hne)
  simp only [VRel]
  exact ⟨_, rfl, by simp [VsRel, VRel]⟩


theorem sem_nilCheck {P : Program} {o : Oper} {ρ n x} (ho : o.op = .nilCheck x) (h1 : (∃ b g i, ρ x = .ref b g i) ∨ (∃ cs, ρ x = .tref cs) ∨ (∃ f a b, ρ x = .fn (.func f) a b)) : OpSem P o ρ n { v := ρ x } := by
  refine OpSem.value fun m ro H w a hi hx _ => ?_
  have e1 := hx x (by simp [ho, Op.operands])
  refine ⟨a.eval x, ?_, e1⟩
  rcases h1 with ⟨b, g, i, h⟩ | ⟨cs, h⟩ | ⟨f, p, q, h⟩
  · rw [h] at e1
    simp only [VRel] at e1
    obtain ⟨_, _, _, e1⟩ := e1
    simp [execOp, ho, e1]
  · rw [h] at e1
    simp only [VRel] at e1
    obtain ⟨_, _, e1, _⟩ := e1
    simp [execOp, ho, e1]
  · rw [h] at e1
    simp only [VRel] at e1
    obtain ⟨_, _, e1, _⟩ := e1
    simp [execOp, ho, e1]

theorem map_rel {m ro w} {ρ : Operand → AV} {a : Act} : ∀ (xs : List Operand), (∀ x ∈ xs, VRel m ro w (ρ x) (a.eval x)) → VsRel m ro w (xs.map ρ) (xs.map a.eval)
  | [], _ => by simp [VsRel]
  | x :: xs, h => by
    simp only [List.map_cons, VsRel]
    exact ⟨_, _, rfl, h x (by simp), map_rel xs fun y hy => h y (by simp [hy])⟩

theorem sem_makeFunc {P : Program} {o : Oper} {ρ n f first cap} (ho : o.op = .makeFunc f first cap) : OpSem P o ρ n { v := .fn f (first.toList.map ρ) (cap.toList.map ρ) } := by
  refine OpSem.value fun m ro H w a hi hx _ => ?_
  have hx' : ∀ x, x ∈ first.toList ++ cap.toList → VRel m ro w (ρ x) (a.eval x) := fun x h => hx x (by rw [ho]; simpa [Op.operands] using h)
  refine ⟨.func f (first.map a.eval) (cap.map a.eval), by simp [execOp, ho, Instr.makeFunc], ?_⟩
  simp only [VRel]
  refine ⟨_, _, rfl, ?_, ?_⟩
  · rw [Array.toList_map]; exact map_rel _ fun x h => hx' x (by simp [h])
  · rw [Array.toList_map]; exact map_rel _ fun x h => hx' x (by simp [h])

def tyConc (P : Program) (t : TypeId) : Bool := match P.underlying t with | some (.interface _) => false | some _ => true | none => false

theorem sem_makeInterface {P : Program} {o : Oper} {ρ n t x} (ho : o.op = .makeInterface t x) (ht : tyConc P t = true) : OpSem P o ρ n { v := .ifc t (ρ x) } := by
  refine OpSem.value fun m ro H w a hi hx _ => ?_
  have e1 := hx x (by simp [ho, Op.operands])
  refine ⟨.iface t (a.eval x), ?_, by simp only [VRel]; exact ⟨_, rfl, e1⟩⟩
  unfold tyConc at ht
  split at ht
  · simp at ht
  · rename_i d hd h
    have : (Instr.makeInterface t (a.eval x)).run P w = .ok (.iface t (a.eval x)) w := by
      simp only [Instr.makeInterface, Sem.run_bind, run_underlying' h, Result.andThen_ok]
      try rfl
    simp [execOp, ho, this]
  · simp at ht

theorem sem_max {P : Program} {o : Oper} {ρ n} {c : Call} {x y : Operand} {k k' : IntKind} {i j : Int} (ho : o.op = .call c) (hc : c.callee = .builtin .max) (ha : c.args = #[x, y]) (h1 : ρ x = .int k i) (h2 : ρ y = .int k' j) :
    OpSem P o ρ n { v := .int k (if j > i then j else i) } := by
  refine OpSem.value fun m ro H w a hi hx _ => ?_
  have e1 := hx x (by simp [ho, Op.operands, Call.operands, hc, ha])
  have e2 := hx y (by simp [ho, Op.operands, Call.operands, hc, ha])
  rw [h1] at e1
  rw [h2] at e2
  simp only [VRel] at e1 e2
  exact ⟨.int k (if j > i then j else i), by simp [execOp, ho, resolve, hc, ha, invoke, builtin, Builtin.max_, Builtin.max2, e1, e2], vrel_int⟩

theorem sem_min {P : Program} {o : Oper} {ρ n} {c : Call} {x y : Operand} {k k' : IntKind} {i j : Int} (ho : o.op = .call c) (hc : c.callee = .builtin .min) (ha : c.args = #[x, y]) (h1 : ρ x = .int k i) (h2 : ρ y = .int k' j) :
    OpSem P o ρ n { v := .int k (if j < i then j else i) } := by
  refine OpSem.value fun m ro H w a hi hx _ => ?_
  have e1 := hx x (by simp [ho, Op.operands, Call.operands, hc, ha])
  have e2 := hx y (by simp [ho, Op.operands, Call.operands, hc, ha])
  rw [h1] at e1
  rw [h2] at e2
  simp only [VRel] at e1 e2
  exact ⟨.int k (if j < i then j else i), by simp [execOp, ho, resolve, hc, ha, invoke, builtin, Builtin.min_, Builtin.min2, e1, e2], vrel_int⟩

def SK.isNil : SK → Nat → Option Bool
  | .nil, _ => some true
  | .any, n => if n = 0 then none else some false
  | _, _ => some false

theorem equalIn_slnil {P : Program} {t e : TypeId} (ht : P.underlying t = some (.slice e)) (d : Nat) (b : Option Addr) (n c : Nat) (w : World) : (Op.equalIn (d + 1) t (.slice b n c) (.slice none 0 0)).run P w = .ok b.isNone w := by
  cases b <;> simp [Op.equalIn, run_underlying' ht]

theorem sem_eqNil_sl {P : Program} {o : Oper} {ρ n t x y t' k N cs r} (ho : o.op = .binOp .eql t x y t') (h1 : ρ x = .sl k N cs) (h2 : ρ y = .sl .nil 0 []) (hs : isSlice P t = true) (hr : k.isNil N = some r) :
    OpSem P o ρ n { v := .bool r } := by
  refine OpSem.value fun m ro H w a hi hx _ => ?_
  have e1 := hx x (by simp [ho, Op.operands])
  have e2 := hx y (by simp [ho, Op.operands])
  rw [h1] at e1
  rw [h2] at e2
  obtain ⟨e, he⟩ := Option.isSome_iff_exists.1 hs
  have hu := tyElem_some he
  simp only [VRel] at e1 e2
  have e2' : a.eval y = .slice none 0 0 := by
    rcases e2 with ⟨_, h, _⟩ | ⟨h, _⟩
    · exact h
    · exact absurd rfl h
  have heq : ∀ (b : Option Addr) (n c : Nat), (Op.equal t (.slice b n c) (.slice none 0 0)).run P w = .ok b.isNone w := fun b n c => equalIn_slnil hu 9999 b n c w
  refine ⟨.bool r, ?_, vrel_bool⟩
  rcases e1 with ⟨hk, e1, rfl, _⟩ | ⟨hk, ad, cap, e1, _, _, _⟩
  · have : r = true := by rcases hk with rfl | rfl <;> simp [SK.isNil] at hr; exact hr
    simp only [execOp, ho, e1, e2', eqGuard_at_slice, Sem.run_bind, Sem.run_pure, Result.andThen_ok, binOp, heq, this, Option.isNone_none]
  · have : r = false := by
      cases k <;> simp [SK.isNil] at hr hk
      · exact hr.2
      · exact hr
      · exact hr
    simp only [execOp, ho, e1, e2', eqGuard_at_slice, Sem.run_bind, Sem.run_pure, Result.andThen_ok, binOp, heq, this, Option.isNone_some]

attribute [irreducible] dec
end Tab
