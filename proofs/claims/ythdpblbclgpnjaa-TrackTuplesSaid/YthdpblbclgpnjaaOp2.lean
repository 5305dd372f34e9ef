/- The abstract machine's operations on memory. -/
import Derived.Test.YthdpblbclgpnjaaOp
import Derived.Laws.AppendOwn
import Derived.Laws.MakeOwn
set_option linter.unusedVariables false
set_option linter.unusedSimpArgs false
set_option linter.unusedSectionVars false
namespace Tab
open Go
variable [Globs]

/-! ### Cells read -/

theorem CsRel.values {m ro w} : ∀ {cs : List AV} {cb off : Nat}, CsRel m ro w cs cb off →
    ∃ vs : List Value, VsRel m ro w cs vs ∧ (∀ v ∈ vs, v.oneCell' = true) ∧ ∀ (j : Nat) (v : Value), vs[j]? = some v → w.cell? ⟨cb, off + j, none⟩ = some v
  | [], cb, off, _ => ⟨[], by simp [VsRel], by simp, by simp⟩
  | a :: as, cb, off, h => by
    simp only [CsRel] at h
    obtain ⟨_, ⟨v, hv, ho, hr⟩, h⟩ := h
    obtain ⟨vs, h1, h2, h3⟩ := h.values
    refine ⟨v :: vs, by simp only [VsRel]; exact ⟨v, vs, rfl, hr, h1⟩, by simp only [List.mem_cons]; rintro x (rfl | hx); exact ho; exact h2 x hx, fun j x hj => ?_⟩
    cases j with
    | zero => simp at hj; subst hj; exact hv
    | succ j => rw [show off + (j + 1) = off + 1 + j by omega]; exact h3 j x (by simpa using hj)

theorem Lay.values {m ro w} : ∀ {cs : List AV} {c : Array Value} {base : Nat}, Lay m ro w cs c base →
    ∃ vs : List Value, VsRel m ro w cs vs ∧ (∀ v ∈ vs, v.oneCell' = true) ∧ ∀ (j : Nat) (v : Value), vs[j]? = some v → c[base + j]? = some v
  | [], c, base, _ => ⟨[], by simp [VsRel], by simp, by simp⟩
  | a :: as, c, base, h => by
    obtain ⟨v, hv, ho, hr⟩ := h 0 a rfl
    have h' : Lay m ro w as c (base + 1) := fun i x hi => by
      have := h (i + 1) x (by simpa using hi)
      rwa [show base + (i + 1) = base + 1 + i by omega] at this
    obtain ⟨vs, h1, h2, h3⟩ := h'.values
    refine ⟨v :: vs, by simp only [VsRel]; exact ⟨v, vs, rfl, hr, h1⟩, by simp only [List.mem_cons]; rintro x (rfl | hx); exact ho; exact h2 x hx, fun j x hj => ?_⟩
    cases j with
    | zero => simp at hj; subst hj; simpa using hv
    | succ j => rw [show base + (j + 1) = base + 1 + j by omega]; exact h3 j x (by simpa using hj)

/-- A block that can be read: its generation and its cells. -/
def Blk.rd : Blk → Option (Nat × List AV)
  | .cells g cs => some (g, cs)
  | .fro g cs => some (g, cs)
  | _ => none

theorem Lay.drop {m ro w cs c base} (h : Lay m ro w cs c base) (k : Nat) : Lay m ro w (cs.drop k) c (base + k) := fun i a hi => by
  have := h (k + i) a (by simpa using hi)
  rwa [show base + (k + i) = base + k + i by omega] at this
theorem Lay.take {m ro w cs c base} (h : Lay m ro w cs c base) (k : Nat) : Lay m ro w (cs.take k) c base := fun i a hi => by
  rw [List.getElem?_take] at hi
  split at hi
  · exact h i a hi
  · simp at hi

/-- The cells of a readable block, from a place on, as values. -/
theorem Inv.cellsAt {m ro H w} (hi : Inv m ro H w) {b g cs x cb base} (hb : H b = some x) (hx : x.rd = some (g, cs)) (hm : m b g = some (.at cb base)) (o k : Nat) :
    ∃ vs : List Value, VsRel m ro w ((cs.drop o).take k) vs ∧ (∀ v ∈ vs, v.oneCell' = true) ∧ ∀ (j : Nat) (v : Value), vs[j]? = some v → w.cell? ⟨cb, base + o + j, none⟩ = some v := by
  have h := hi.blk b x hb
  cases x with
  | cells g' cs' =>
    simp only [Blk.rd, Option.some.injEq, Prod.mk.injEq] at hx
    obtain ⟨rfl, rfl⟩ := hx
    obtain ⟨c, t, hc, hl⟩ := h _ hm
    obtain ⟨vs, h1, h2, h3⟩ := ((hl.drop o).take k).values
    refine ⟨vs, h1, h2, fun j v hj => ?_⟩
    simp only [World.cell?, hc]
    simpa using h3 j v hj
  | fro g' cs' =>
    simp only [Blk.rd, Option.some.injEq, Prod.mk.injEq] at hx
    obtain ⟨rfl, rfl⟩ := hx
    exact ((CsRel.drop (h _ hm) o).take k).values
  | siter _ _ => simp [Blk.rd] at hx
  | dead => simp [Blk.rd] at hx

theorem tyLd_one {P : Program} {t : TypeId} (h : tyLd P t = some none) {w : World} {cb off : Nat} {v : Value} (hc : w.cell? ⟨cb, off, none⟩ = some v) :
    (loadVar t ⟨cb, off, none⟩).run P w = .ok v w := by
  have hd : (isAgg t).run P w = .ok false w := by
    unfold tyLd at h
    unfold isAgg
    split at h
    · simp at h
    · simp at h
    · rename_i d h1 h2 hu
      simp only [Sem.run_bind, run_underlying' hu, Result.andThen_ok]
      rfl
    · simp at h
  simp [loadVar, hd, hc]

theorem tyLd_agg {P : Program} {t : TypeId} {k : Nat} (h : tyLd P t = some (some k)) {w : World} {cb off : Nat} {vs : List Value} (hl : vs.length = k)
    (hc : ∀ (j : Nat) (v : Value), vs[j]? = some v → w.cell? ⟨cb, off + j, none⟩ = some v) :
    (loadVar t ⟨cb, off, none⟩).run P w = .ok (.agg vs.toArray) w := by
  have hs : (isAgg t).run P w = .ok true w ∧ ∃ i, P.info? t = some i ∧ i.size = k := by
    unfold tyLd at h
    split at h
    · rename_i fs hu
      cases hi : P.info? t with
      | none => simp [hi] at h
      | some i => exact ⟨by simp [isAgg, run_underlying' hu], i, rfl, by simpa [hi] using h⟩
    · rename_i n e hu
      cases hi : P.info? t with
      | none => simp [hi] at h
      | some i => exact ⟨by simp [isAgg, run_underlying' hu], i, rfl, by simpa [hi] using h⟩
    · simp at h
    · simp at h
  obtain ⟨hd, i, hi, rfl⟩ := hs
  have hl' := run_loadCells_list (P := P) w ⟨cb, off, none⟩ vs (fun j v hj => by rw [addr_add]; exact hc j v hj)
  simp [loadVar, hd, run_sizeOf' hi, ← hl, hl']

theorem sem_load_tref {P : Program} {o : Oper} {ρ n t x cs} {c : AV} (ho : o.op = .load t x) (h1 : ρ x = .tref cs) (ht : tyLd P t = some none) (hc : cs[0]? = some c) : OpSem P o ρ n { v := c } := by
  refine OpSem.value fun m ro H w a hi hx _ => ?_
  have e1 := hx x (by simp [ho, Op.operands])
  rw [h1] at e1
  simp only [VRel] at e1
  obtain ⟨cb, off, e, h⟩ := e1
  obtain ⟨_, v, hv, _, hr⟩ := CsRel_iff.1 h 0 c hc
  refine ⟨v, ?_, hr⟩
  simp [execOp, ho, e, Instr.loadAt, Instr.sureAddr, tyLd_one ht (by simpa using hv)]

theorem sem_loadAgg_tref {P : Program} {o : Oper} {ρ n t x cs k} (ho : o.op = .load t x) (h1 : ρ x = .tref cs) (ht : tyLd P t = some (some k)) (hk : k ≤ cs.length) :
    OpSem P o ρ n { v := .agg (cs.take k) } := by
  refine OpSem.value fun m ro H w a hi hx _ => ?_
  have e1 := hx x (by simp [ho, Op.operands])
  rw [h1] at e1
  simp only [VRel] at e1
  obtain ⟨cb, off, e, h⟩ := e1
  obtain ⟨vs, h2, h3, h4⟩ := (h.take k).values
  have hl : vs.length = k := by rw [← h2.length]; simp; omega
  refine ⟨.agg vs.toArray, ?_, ?_⟩
  · simp [execOp, ho, e, Instr.loadAt, Instr.sureAddr, tyLd_agg ht hl h4]
  · simp only [VRel]; exact ⟨_, rfl, by simpa using h3, by simpa using h2⟩

theorem sem_load_ref {P : Program} {o : Oper} {ρ n t x b g i blk cs} {c : AV} (ho : o.op = .load t x) (h1 : ρ x = .ref b g i) (ht : tyLd P t = some none) (hb : blk.rd = some (g, cs)) (hc : cs[i]? = some c) :
    OpSem P o ρ n { v := c, need := [(b, blk)] } := by
  refine OpSem.value fun m ro H w a hi hx hn => ?_
  have e1 := hx x (by simp [ho, Op.operands])
  rw [h1] at e1
  simp only [VRel] at e1
  obtain ⟨cb, base, hm, e⟩ := e1
  have hb' := hn (b, blk) (by simp)
  obtain ⟨vs, h2, h3, h4⟩ := hi.cellsAt hb' hb hm i 1
  have hc' : ((cs.drop i).take 1)[0]? = some c := by simp [hc]
  obtain ⟨v, hv, hr⟩ := h2.get hc'
  refine ⟨v, ?_, hr⟩
  simp [execOp, ho, e, Instr.loadAt, Instr.sureAddr, tyLd_one ht (by simpa using h4 0 v hv)]

theorem sem_loadAgg_ref {P : Program} {o : Oper} {ρ n t x b g i blk cs k} (ho : o.op = .load t x) (h1 : ρ x = .ref b g i) (ht : tyLd P t = some (some k)) (hb : blk.rd = some (g, cs)) (hk : i + k ≤ cs.length) :
    OpSem P o ρ n { v := .agg ((cs.drop i).take k), need := [(b, blk)] } := by
  refine OpSem.value fun m ro H w a hi hx hn => ?_
  have e1 := hx x (by simp [ho, Op.operands])
  rw [h1] at e1
  simp only [VRel] at e1
  obtain ⟨cb, base, hm, e⟩ := e1
  have hb' := hn (b, blk) (by simp)
  obtain ⟨vs, h2, h3, h4⟩ := hi.cellsAt hb' hb hm i k
  have hl : vs.length = k := by rw [← h2.length]; simp; omega
  refine ⟨.agg vs.toArray, ?_, ?_⟩
  · simp [execOp, ho, e, Instr.loadAt, Instr.sureAddr, tyLd_agg ht hl h4]
  · simp only [VRel]; exact ⟨_, rfl, by simpa using h3, by simpa using h2⟩

/-! ### New blocks -/

/-- Values that fit one cell. -/
def AV.one : AV → Bool
  | .agg _ | .tup _ | .junk => false
  | _ => true

theorem one_rel {m ro w} {a : AV} {v : Value} (h : VRel m ro w a v) (ho : a.one = true) : v.oneCell' = true := by
  cases a <;> simp only [AV.one, Bool.false_eq_true] at ho <;> simp only [VRel] at h
  case bool => subst h; rfl
  case int => subst h; rfl
  case str => subst h; rfl
  case nilp => subst h; rfl
  case ref => obtain ⟨_, _, _, rfl⟩ := h; rfl
  case tref => obtain ⟨_, _, rfl, _⟩ := h; rfl
  case sl => rcases h with ⟨_, rfl, _⟩ | ⟨_, _, _, rfl, _⟩ <;> rfl
  case hs =>
    obtain ⟨loc, _, h⟩ := h
    cases loc with
    | void => obtain ⟨rfl, _⟩ := h; rfl
    | «at» cb base => obtain ⟨_, rfl, _⟩ := h; rfl
  case nilm => subst h; rfl
  case mp => obtain ⟨_, _, rfl⟩ := h; rfl
  case nilf => subst h; rfl
  case fn => obtain ⟨_, _, rfl, _⟩ := h; rfl
  case nili => subst h; rfl
  case ifc => obtain ⟨_, rfl, _⟩ := h; rfl

/-- The cells of a value. -/
def AV.cells : AV → Option (List AV)
  | .agg cs => some cs
  | .tup _ | .junk => none
  | a => some [a]

theorem cells_rel {m ro w} {a : AV} {v : Value} {cs : List AV} (h : VRel m ro w a v) (hc : a.cells = some cs) : VsRel m ro w cs v.cells.toList ∧ ∀ x ∈ v.cells.toList, x.oneCell' = true := by
  by_cases ho : a.one = true
  · have h1 := one_rel h ho
    have hcs : cs = [a] := by cases a <;> simp_all [AV.cells, AV.one]
    have hv : v.cells = #[v] := by cases v <;> simp_all [Value.cells, Value.oneCell']
    subst hcs
    rw [hv]
    exact ⟨by simp only [VsRel]; exact ⟨v, [], rfl, h, rfl⟩, by simpa using h1⟩
  · cases a <;> simp [AV.cells, AV.one] at hc ho
    subst hc
    simp only [VRel] at h
    obtain ⟨c, rfl, h1, h2⟩ := h
    exact ⟨h2, h1⟩

theorem alloc_heap (w : World) (o : Obj) : (w.alloc o).heap[w.heap.size]? = some o := heap_alloc_new w o
theorem alloc_old (w : World) (o : Obj) {k : Nat} (h : k < w.heap.size) : (w.alloc o).heap[k]? = w.heap[k]? := by
  show (w.heap.push o)[k]? = _
  rw [Array.getElem?_push, if_neg (by omega)]

/-- A new row of cells. -/
theorem Inv.row {m ro H w} (hi : Inv m ro H w) {n : Nat} (hn : H n = none) (hm : ∀ g, m n g = none) {cs : List AV} {c : Array Value} (t : TypeId)
    (hl : ∀ (i : Nat) (a : AV), cs[i]? = some a → ∃ v, c[i]? = some v ∧ v.oneCell' = true ∧ VRel m ro w a v) {v : AV} :
    let m' : Mp := fun b₁ g₁ => if b₁ = n ∧ g₁ = 0 then some (.at w.heap.size 0) else m b₁ g₁
    Inv m' ro (app H n { v := v, new := some (.cells 0 cs) }) (w.alloc (.cells c t)) ∧
      Step m ro H w m' ro (app H n { v := v, new := some (.cells 0 cs) }) (w.alloc (.cells c t)) := by
  intro m'
  refine hi.change (m' := m') n (.cells 0 cs) 0 w.heap.size 0 rfl (fun _ _ => rfl) (fun b => ?_) (fun g l h => by simp [hm] at h) (fun l h => by simp [hm] at h) (.inl (Nat.le_refl _))
    (by simp) (by simp) rfl rfl rfl (fun c hc _ => alloc_old w _ hc) (fun c t fr h => ?_) (fun keep => ?_)
  · simp only [app]
  · have : w.heap[w.heap.size]? = none := Array.getElem?_eq_none (Nat.le_refl _)
    rw [this] at h
    simp at h
  · intro loc h
    simp only [m', if_true, and_self, Option.some.injEq] at h
    subst h
    refine ⟨c, t, alloc_heap w _, fun i a hia => ?_⟩
    obtain ⟨v, h1, h2, h3⟩ := hl i a hia
    exact ⟨v, by simpa using h1, h2, keep a v h3⟩

/-- An operation that makes one new row, and answers its address. -/
theorem OpSem.newRow {P : Program} {o : Oper} {ρ : Operand → AV} {n : Nat} {cs : List AV} {nd : List (Nat × Blk)} (r : AV)
    (h : ∀ m ro H w (a : Act), Inv m ro H w → (∀ x ∈ o.op.operands, VRel m ro w (ρ x) (a.eval x)) → (∀ p ∈ nd, H p.1 = some p.2) →
      ∃ (v' : Value) (c : Array Value) (t : TypeId) (vs : List Value), (execOp a.eval o).run P w = .ok (.value v') (w.alloc (.cells c t)) ∧ VsRel m ro w cs vs ∧ (∀ v ∈ vs, v.oneCell' = true) ∧ (∀ (i : Nat) (v : Value), vs[i]? = some v → c[i]? = some v) ∧
        (∀ m' ro' w', m' n 0 = some (.at w.heap.size 0) → w'.heap[w.heap.size]? = some (.cells c t) → VRel m' ro' w' r v')) :
    OpSem P o ρ n { v := r, need := nd, new := some (.cells 0 cs) } := by
  intro m ro H w a hi hx hn hf next Q k
  obtain ⟨v', c, t, vs, hr, hv, ho, hcv, hres⟩ := h m ro H w a hi hx hn
  obtain ⟨hHn, hmn⟩ := hf _ rfl
  unfold Oper.wp
  rw [hr]
  obtain ⟨h1, h2⟩ := hi.row (v := r) hHn hmn (cs := cs) (c := c) t (fun i a hia => by
    obtain ⟨v, hvi, hvr⟩ := hv.get hia
    exact ⟨v, hcv i v hvi, ho v (List.mem_of_getElem? hvi), hvr⟩)
  refine k _ _ _ v' (hres _ _ _ (by simp) (alloc_heap w _)) h1 h2 (fun b g hne => ?_)
  by_cases hc : b = n ∧ g = 0
  · exact .inr ⟨hc.1, rfl⟩
  · simp [hc] at hne

theorem ref_new {m : Mp} {ro : Nat → Prop} {w' : World} {n cb : Nat} (h : m n 0 = some (.at cb 0)) : VRel m ro w' (.ref n 0 0) (.pointer (some ⟨cb, 0, none⟩)) := by
  simp only [VRel]; exact ⟨cb, 0, h, rfl⟩

theorem sem_alloc {P : Program} {o : Oper} {ρ n t z by'} (ho : o.op = .alloc t) (hz : tyE P t = some (z, by')) : OpSem P o ρ n { v := .ref n 0 0, new := some (.cells 0 z) } := by
  obtain ⟨i, zv, hinfo, hzero, ⟨_, hone⟩, rfl, _, _⟩ := tyE_some hz
  refine OpSem.newRow _ fun m ro H w a hi hx _ => ⟨.pointer (some ⟨w.heap.size, 0, none⟩), zv.cells, t, zv.cells.toList, ?_, cvs_rel _, hone, by simp, fun m' ro' w' h _ => ref_new h⟩
  simp [execOp, ho, Instr.alloc, run_zero' hinfo hzero, newVar, newRow]

theorem sem_box {P : Program} {o : Oper} {ρ n t x cs} (ho : o.op = .box t x) (hc : (ρ x).cells = some cs) : OpSem P o ρ n { v := .ref n 0 0, new := some (.cells 0 cs) } := by
  refine OpSem.newRow _ fun m ro H w a hi hx _ => ?_
  have e1 := hx x (by simp [ho, Op.operands])
  obtain ⟨h1, h2⟩ := cells_rel e1 hc
  refine ⟨.pointer (some ⟨w.heap.size, 0, none⟩), (a.eval x).cells, t, (a.eval x).cells.toList, ?_, h1, h2, by simp, fun m' ro' w' h _ => ref_new h⟩
  simp [execOp, ho, Instr.box, newVar, newRow]

theorem hs_new {m : Mp} {ro : Nat → Prop} {w' : World} {n cb k cap es : Nat} {c : Array Value} {t : TypeId} (h : m n 0 = some (.at cb 0)) (hc : w'.heap[cb]? = some (.cells c t)) (hk : k ≤ cap) (hs : cap * es ≤ c.size) :
    VRel m ro w' (.hs n 0 0 k es) (.slice (some ⟨cb, 0, none⟩) k cap) := by
  simp only [VRel]
  exact ⟨_, h, cap, by simp, hk, c, t, (0, 0), hc, by simpa using hs⟩

/-- Parts laid into cells. -/
def afill (places : Nat → Option (Nat × Nat)) (cells : List AV) : List (Nat × AV) → Option (List AV)
  | [] => some cells
  | (i, v) :: rest => match places i, v.cells with
    | some (off, size), some cs => bif Nat.beq cs.length size && Nat.ble (off + size) cells.length then afill places (cells.take off ++ cs ++ cells.drop (off + size)) rest else none
    | _, _ => none

theorem fold_set (vs : List Value) : ∀ (off k : Nat) (c : Array Value), off + k + vs.length ≤ c.size →
    ((vs.zipIdx k).foldl (fun cs (x : Value × Nat) => cs.setIfInBounds (off + x.2) x.1) c).toList = c.toList.take (off + k) ++ vs ++ c.toList.drop (off + k + vs.length) := by
  induction vs with
  | nil => intro off k c h; simp
  | cons v vs ih =>
    intro off k c h
    simp only [List.zipIdx_cons, List.foldl_cons]
    rw [ih off (k + 1) _ (by simp only [Array.size_setIfInBounds, List.length_cons] at *; omega)]
    have := list_seg_step c.toList (off + k) v vs (by simp only [List.length_cons, Array.length_toList] at *; omega)
    rw [show off + (k + 1) = off + k + 1 by omega]
    simpa [Array.toList_setIfInBounds, Nat.add_assoc, Nat.add_comm 1] using this

theorem afill_rel {m ro w} {places : Nat → Option (Nat × Nat)} : ∀ (ps : List (Nat × AV)) (qs : List (Nat × Value)) (cells : List AV) (c : Array Value) (out : List AV),
    afill places cells ps = some out → VsRel m ro w cells c.toList → (∀ v ∈ c.toList, v.oneCell' = true) →
    ps.length = qs.length → (∀ (j : Nat) (p : Nat × AV) (q : Nat × Value), ps[j]? = some p → qs[j]? = some q → p.1 = q.1 ∧ VRel m ro w p.2 q.2) →
    ∃ c', Instr.fill places c qs = some c' ∧ VsRel m ro w out c'.toList ∧ ∀ v ∈ c'.toList, v.oneCell' = true
  | [], [], cells, c, out, h, hv, ho, _, _ => by
    simp only [afill, Option.some.injEq] at h
    subst h
    exact ⟨c, rfl, hv, ho⟩
  | [], _ :: _, _, _, _, _, _, _, hl, _ => by simp at hl
  | _ :: _, [], _, _, _, _, _, _, hl, _ => by simp at hl
  | (i, a) :: ps, (i', x) :: qs, cells, c, out, h, hv, ho, hl, hp => by
    obtain ⟨e, hax⟩ := hp 0 _ _ rfl rfl
    simp only at e hax
    subst e
    simp only [afill] at h
    split at h
    · rename_i off size cs hpl hcs
      rw [Bool.cond_eq_ite] at h
      split at h
      · rename_i hc
        simp only [Bool.and_eq_true, Nat.ble_eq] at hc
        obtain ⟨hsz, hle⟩ := hc
        have hsz := Nat.eq_of_beq_eq_true hsz
        subst hsz
        obtain ⟨h1, h2⟩ := cells_rel hax hcs
        have hlen := hv.length
        have hxl := h1.length
        simp only [Array.length_toList] at hlen hxl
        have hfold := fold_set x.cells.toList off 0 c (by simp only [Array.length_toList]; omega)
        have hrel : VsRel m ro w (cells.take off ++ cs ++ cells.drop (off + cs.length)) (c.toList.take off ++ x.cells.toList ++ c.toList.drop (off + cs.length)) :=
          ((hv.take off).append h1).append (hv.drop _)
        obtain ⟨c', h3, h4, h5⟩ := afill_rel ps qs (cells.take off ++ cs ++ cells.drop (off + cs.length)) (x.cells.zipIdx.foldl (fun cs (y : Value × Nat) => cs.setIfInBounds (off + y.2) y.1) c) out h
          (by
            rw [← Array.foldl_toList, Array.toList_zipIdx, hfold]
            simpa [hxl] using hrel)
          (by
            rw [← Array.foldl_toList, Array.toList_zipIdx, hfold]
            intro v hv'
            simp only [List.mem_append] at hv'
            rcases hv' with (h | h) | h
            · exact ho v (List.mem_of_mem_take h)
            · exact h2 v h
            · exact ho v (List.mem_of_mem_drop h))
          (by simpa using hl) (fun j p q h1 h2 => hp (j + 1) p q (by simpa using h1) (by simpa using h2))
        refine ⟨c', ?_, h4, h5⟩
        simp only [Instr.fill, hpl]
        rw [if_neg]
        · exact h3
        · simp only [Bool.or_eq_true, bne_iff_ne, decide_eq_true_eq]
          omega
      · simp at h
    · simp at h

end Tab
