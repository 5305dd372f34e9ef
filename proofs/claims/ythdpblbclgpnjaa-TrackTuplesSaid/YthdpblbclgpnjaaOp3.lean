/- More of the abstract machine's operations: aggregates, stores, new slices. -/
import Derived.Test.YthdpblbclgpnjaaOp2
set_option linter.unusedVariables false
set_option linter.unusedSimpArgs false
set_option linter.unusedSectionVars false
namespace Tab
open Go
variable [Globs]

/-- Zero's cells of a struct or array type, and where its parts lie. -/
def tyPl (P : Program) (t : TypeId) : Option (List AV × List (Nat × Nat)) :=
  match tyE P t, P.underlying t with
  | some (z, _), some (.struct fields) => (fields.toList.mapM fun (f : Field) => (P.info? f.type).map fun i => (f.offset, i.size)).map fun ps => (z, ps)
  | some (z, _), some (.array n e) => (P.info? e).map fun i => (z, (List.range n).map fun k => (k * i.size, i.size))
  | _, _ => none

def evParts (ρ : Operand → AV) : List (Nat × Operand) → List (Nat × AV)
  | [] => []
  | (i, x) :: rest => (i, ρ x) :: evParts ρ rest

theorem evParts_get {ρ : Operand → AV} : ∀ {ps : List (Nat × Operand)} {j : Nat} {p : Nat × AV}, (evParts ρ ps)[j]? = some p → ∃ x, ps[j]? = some (p.1, x) ∧ p.2 = ρ x
  | [], j, p, h => by simp [evParts] at h
  | (i, x) :: rest, j, p, h => by
    cases j with
    | zero => simp [evParts] at h; subst h; exact ⟨x, rfl, rfl⟩
    | succ j => simpa using evParts_get (ps := rest) (by simpa [evParts] using h)

theorem evParts_length {ρ : Operand → AV} : ∀ (ps : List (Nat × Operand)), (evParts ρ ps).length = ps.length
  | [] => rfl
  | (i, x) :: rest => by simp [evParts, evParts_length rest]

theorem Fill.mono {p q : Nat → Option (Nat × Nat)} (h : ∀ i x, p i = some x → q i = some x) : ∀ (ps : List (Nat × Value)) (c c' : Array Value), Instr.fill p c ps = some c' → Instr.fill q c ps = some c'
  | [], c, c', e => e
  | (i, v) :: ps, c, c', e => by
    simp only [Instr.fill] at e ⊢
    cases hp : p i with
    | none => simp [hp] at e
    | some x =>
      rw [h i x hp]
      simp only [hp] at e ⊢
      split at e
      · simp at e
      · rename_i h1; rw [if_neg h1]; exact Fill.mono h ps _ c' e

theorem tyPl_built {P : Program} {t : TypeId} {z : List AV} {ps : List (Nat × Nat)} (h : tyPl P t = some (z, ps)) :
    ∃ zv : Value, (∀ v ∈ zv.cells.toList, v.oneCell' = true) ∧ z = zv.cells.toList.map cv ∧
      ∀ (qs : List (Nat × Value)) (c : Array Value), Instr.fill (ps[·]?) zv.cells qs = some c → P.built t qs = some c := by
  unfold tyPl at h
  split at h
  · rename_i z' _ fields hz hu
    obtain ⟨i, zv, hinfo, hzero, ⟨_, hone⟩, hzz, _, _⟩ := tyE_some hz
    cases hp : (fields.toList.mapM fun (f : Field) => (P.info? f.type).map fun i => (f.offset, i.size)) with
    | none => simp [hp] at h
    | some places =>
      simp only [hp, Option.map_some, Option.some.injEq, Prod.mk.injEq] at h
      obtain ⟨rfl, rfl⟩ := h
      refine ⟨zv, hone, hzz, fun qs c hf => ?_⟩
      simp only [Program.built, hinfo, hu, hzero, hp]
      simpa using hf
  · rename_i z' _ k e hz hu
    obtain ⟨i, zv, hinfo, hzero, ⟨_, hone⟩, hzz, _, _⟩ := tyE_some hz
    cases he : P.info? e with
    | none => simp [he] at h
    | some ie =>
      simp only [he, Option.map_some, Option.some.injEq, Prod.mk.injEq] at h
      obtain ⟨rfl, rfl⟩ := h
      refine ⟨zv, hone, hzz, fun qs c hf => ?_⟩
      simp only [Program.built, hinfo, hu, hzero, he]
      refine Fill.mono (fun j x hx => ?_) qs _ c hf
      simp only [List.getElem?_map, Option.map_eq_some_iff, List.getElem?_eq_some_iff, List.getElem_range, List.length_range] at hx
      obtain ⟨y, ⟨hlt, rfl⟩, rfl⟩ := hx
      rfl
  · simp at h

theorem parts_rel {m ro w} {ρ : Operand → AV} {a : Act} {parts : Array (Nat × Operand)} (hx : ∀ p ∈ parts.toList, VRel m ro w (ρ p.2) (a.eval p.2)) :
    ∀ (j : Nat) (p : Nat × AV) (q : Nat × Value), (evParts ρ parts.toList)[j]? = some p → ((parts.map fun x => (x.1, a.eval x.2)).toList)[j]? = some q → p.1 = q.1 ∧ VRel m ro w p.2 q.2 := by
  intro j p q hp hq
  obtain ⟨x, h1, h2⟩ := evParts_get hp
  have : q = (p.1, a.eval x) := by
    simp only [Array.toList_map, List.getElem?_map, h1, Option.map_some, Option.some.injEq] at hq
    exact hq.symm
  subst this
  refine ⟨rfl, ?_⟩
  rw [h2]
  exact hx (p.1, x) (List.mem_of_getElem? h1)

theorem sem_build {P : Program} {o : Oper} {ρ n t} {parts : Array (Nat × Operand)} {z ps out} (ho : o.op = .build t parts) (hp : tyPl P t = some (z, ps))
    (hf : afill (ps[·]?) z (evParts ρ parts.toList) = some out) : OpSem P o ρ n { v := .agg out } := by
  refine OpSem.value fun m ro H w a hi hx _ => ?_
  obtain ⟨zv, hone, rfl, hb⟩ := tyPl_built hp
  have hx' : ∀ p ∈ parts.toList, VRel m ro w (ρ p.2) (a.eval p.2) := fun p hp => hx p.2 (by
    simp only [ho, Op.operands, List.mem_toArray, List.mem_map]
    exact ⟨p, hp, rfl⟩)
  obtain ⟨c, h1, h2, h3⟩ := afill_rel (evParts ρ parts.toList) ((parts.map fun x => (x.1, a.eval x.2)).toList) _ zv.cells out hf (cvs_rel _) hone (by simp [evParts_length]) (parts_rel hx')
  refine ⟨.agg c, ?_, by simp only [VRel]; exact ⟨c, rfl, h3, h2⟩⟩
  simp only [execOp, ho, Sem.run_bind, Sem.run_pure]
  rw [run_build (P := P) w t _ c (hb _ c h1)]
  rfl

/-- n times a row's cells. -/
def reps (z : List AV) : Nat → List AV
  | 0 => []
  | n + 1 => z ++ reps z n

theorem reps_length (z : List AV) : ∀ n, (reps z n).length = n * z.length
  | 0 => by simp [reps]
  | n + 1 => by rw [reps, List.length_append, reps_length z n, Nat.succ_mul]; omega

theorem reps_get (z : List AV) : ∀ (n i : Nat) (a : AV), (reps z n)[i]? = some a → z[i % z.length]? = some a
  | 0, i, a, h => by simp [reps] at h
  | n + 1, i, a, h => by
    rw [reps, List.getElem?_append] at h
    split at h
    · rename_i hlt; rw [Nat.mod_eq_of_lt hlt]; exact h
    · rename_i hge
      have := reps_get z n _ a h
      rwa [← Nat.mod_eq_sub_mod (by omega)] at this

theorem made_get {z : Array Value} {N i : Nat} {v : Value} (hi : i < N) (hz : z[i % z.size]? = some v) : ((Array.range N).map (fun x => z[x % z.size]!))[i]? = some v := by
  simp only [Array.getElem?_map, Array.getElem?_range, hi, if_true, Option.map_some, Option.some.injEq]
  rw [getElem!_def, hz]

/-- The cells of a new row of n elements. -/
theorem reps_rel {m ro w} (zv : Value) (hone : ∀ v ∈ zv.cells.toList, v.oneCell' = true) (n : Nat) :
    VsRel m ro w (reps (zv.cells.toList.map cv) n) ((Array.range (n * zv.cells.size)).map (fun x => zv.cells[x % zv.cells.size]!)).toList ∧
      ∀ v ∈ ((Array.range (n * zv.cells.size)).map (fun x => zv.cells[x % zv.cells.size]!)).toList, v.oneCell' = true := by
  refine ⟨VsRel.of_get (by simp [reps_length]) fun i a v ha hv => ?_, fun v hv => ?_⟩
  · have h1 := reps_get _ _ _ _ ha
    simp only [List.length_map, Array.length_toList, List.getElem?_map, Option.map_eq_some_iff] at h1
    obtain ⟨u, hu, rfl⟩ := h1
    have hlt : i < n * zv.cells.size := by
      have := (List.getElem?_eq_some_iff.1 ha).1
      simpa [reps_length] using this
    have h2 : ((Array.range (n * zv.cells.size)).map (fun x => zv.cells[x % zv.cells.size]!))[i]? = some u := made_get hlt (by simpa using hu)
    have : v = u := by
      have h3 : ((Array.range (n * zv.cells.size)).map (fun x => zv.cells[x % zv.cells.size]!)).toList[i]? = some u := by rw [Array.getElem?_toList]; exact h2
      rw [hv] at h3
      simpa using h3
    subst this
    exact cv_rel v
  · obtain ⟨i, hi⟩ := List.getElem?_of_mem hv
    have hlt : i < n * zv.cells.size := by
      have := (List.getElem?_eq_some_iff.1 hi).1
      simpa using this
    have hpos : 0 < zv.cells.size := by
      rcases Nat.eq_zero_or_pos zv.cells.size with h | h
      · rw [h] at hlt; omega
      · exact h
    have hm := Nat.mod_lt i hpos
    have h2 := made_get (N := n * zv.cells.size) (z := zv.cells) (i := i) (v := zv.cells[i % zv.cells.size]) hlt (by simp [hm])
    have h3 : ((Array.range (n * zv.cells.size)).map (fun x => zv.cells[x % zv.cells.size]!)).toList[i]? = some (zv.cells[i % zv.cells.size]) := by rw [Array.getElem?_toList]; exact h2
    rw [hi] at h3
    have : v = zv.cells[i % zv.cells.size] := by simpa using h3
    rw [this]
    exact hone _ (by simp)

/-- Parts laid into a row of elements of one size. -/
def places (es : Nat) (n : Nat) : Nat → Option (Nat × Nat) := fun i => bif Nat.blt i n then some (i * es, es) else none

theorem sem_buildSlice {P : Program} {o : Oper} {ρ n t e N} {parts : Array (Nat × Operand)} {z by' out} (ho : o.op = .buildSlice t N parts) (he : tyElem P t = some e) (hz : tyE P e = some (z, by'))
    (hsz : N * z.length ≤ 16777216) (hf : afill (fun i => some (i * z.length, z.length)) (reps z N) (evParts ρ parts.toList) = some out) :
    OpSem P o ρ n { v := .hs n 0 0 N z.length, new := some (.cells 0 out) } := by
  obtain ⟨i, zv, hinfo, hzero, ⟨hzs, hone⟩, rfl, _, hlen⟩ := tyE_some hz
  have hu := tyElem_some he
  simp only [List.length_map, Array.length_toList] at hsz hf hlen ⊢
  refine OpSem.newRow _ fun m ro H w a hi hx _ => ?_
  have hx' : ∀ p ∈ parts.toList, VRel m ro w (ρ p.2) (a.eval p.2) := fun p hp => hx p.2 (by
    simp only [ho, Op.operands, List.mem_toArray, List.mem_map]
    exact ⟨p, hp, rfl⟩)
  obtain ⟨r1, r2⟩ := reps_rel (m := m) (ro := ro) (w := w) zv hone N
  obtain ⟨c, h1, h2, h3⟩ := afill_rel (evParts ρ parts.toList) ((parts.map fun x => (x.1, a.eval x.2)).toList) _ _ out hf r1 r2 (by simp [evParts_length]) (parts_rel hx')
  have hcs : c.size = N * zv.cells.size := by
    have hl : ∀ (ps : List (Nat × AV)) (cells out : List AV), afill (fun i => some (i * zv.cells.size, zv.cells.size)) cells ps = some out → out.length = cells.length := by
      intro ps
      induction ps with
      | nil => intro cells out h; simp only [afill, Option.some.injEq] at h; rw [h]
      | cons p ps ih =>
        intro cells out h
        obtain ⟨j, x⟩ := p
        simp only [afill] at h
        split at h
        · rename_i off size cs hpl hcs
          simp only [Option.some.injEq, Prod.mk.injEq] at hpl
          obtain ⟨rfl, rfl⟩ := hpl
          rw [Bool.cond_eq_ite] at h
          split at h
          · rename_i hc
            simp only [Bool.and_eq_true, Nat.ble_eq] at hc
            have hsz := Nat.eq_of_beq_eq_true hc.1
            have := ih _ _ h
            simp at this
            omega
          · simp at h
        · simp at h
    have e1 := hl _ _ _ hf
    have e2 := h2.length
    rw [reps_length] at e1
    simp only [List.length_map, Array.length_toList] at e1 e2
    omega
  refine ⟨.slice (some ⟨w.heap.size, 0, none⟩) N N, c, e, c.toList, ?_, h2, h3, by simp, fun m' ro' w' h hc => hs_new h hc (Nat.le_refl _) (by omega)⟩
  have h1' : Instr.fill (fun i_1 => some (i_1 * i.size, i.size)) ((Array.range (N * i.size)).map fun x => zv.cells[x % zv.cells.size]!) (parts.map fun x => (x.1, a.eval x.2)).toList = some c := by
    rw [← hzs]; exact h1
  have n1 : ¬ (N * i.size > 2 ^ 24) := by rw [← hzs]; omega
  have hrun : (Instr.buildSlice t N (parts.map fun x => (x.1, a.eval x.2))).run P w = .ok (.slice (some ⟨w.heap.size, 0, none⟩) N N) (w.alloc (.cells c e)) := by
    unfold Instr.buildSlice
    by_cases h0 : N * i.size = 0
    · have hemp : ((Array.range (N * i.size)).map fun x => zv.cells[x % zv.cells.size]!) = ((Array.range (N * i.size)).map fun x => (#[] : Array Value)[x % (#[] : Array Value).size]!) := by
        rw [h0, Array.range_zero']; simp
      rw [hemp] at h1'
      simp only [Sem.run_bind, run_underlying' hu, Result.andThen_ok, run_sizeOf' hinfo, if_neg n1, if_pos h0, Sem.run_pure]
      rw [h1']
      rfl
    · simp only [Sem.run_bind, run_underlying' hu, Result.andThen_ok, run_sizeOf' hinfo, if_neg n1, if_neg h0, Sem.run_pure, run_zero' hinfo hzero]
      rw [h1']
      rfl
  simp only [execOp, ho, Sem.run_bind, Sem.run_pure]
  rw [hrun]
  rfl

/-! ### Writing -/

theorem Inv.write {m ro H w} (hi : Inv m ro H w) {n b g : Nat} {cs : List AV} {cb base : Nat} {c : Array Value} {t : TypeId} (hb : H b = some (.cells g cs)) (hm : m b g = some (.at cb base))
    (hc : w.heap[cb]? = some (.cells c t (0, 0))) (c' : Array Value) (hsz : c'.size = c.size) (g' base' : Nat) (hg : g ≤ g') (hbase : g' = g → base' = base) (cs' : List AV) {v : AV} {nd : List (Nat × Blk)}
    (hl : ∀ (i : Nat) (a : AV), cs'[i]? = some a → ∃ v, c'[base' + i]? = some v ∧ v.oneCell' = true ∧ VRel m ro w a v) :
    let m' : Mp := fun b₁ g₁ => if b₁ = b ∧ g₁ = g' then some (.at cb base') else m b₁ g₁
    Inv m' ro (app H n { v := v, need := nd, upd := some (b, .cells g' cs') }) (w.setRow cb c') ∧
      Step m ro H w m' ro (app H n { v := v, need := nd, upd := some (b, .cells g' cs') }) (w.setRow cb c') := by
  intro m'
  have hlt : cb < w.heap.size := hi.own_lt hb rfl hm
  have hrow := setRow_heap w cb c c' t (0, 0) hc
  refine hi.change (m' := m') b (.cells g' cs') g' cb base' rfl (fun _ _ => rfl) (fun b₁ => ?_) (fun g₁ l h => Nat.le_trans (hi.gen b _ g hb rfl g₁ l h) hg) (fun l h => ?_) (.inr ⟨_, g, base, hb, rfl, hm⟩)
    (by simpa using hlt) (by simp) rfl rfl rfl (fun k _ hne => setRow_other w cb k c' hne) (fun c₁ t₁ fr h => ?_) (fun keep => ?_)
  · simp only [app]
  · have hle := hi.gen b _ g hb rfl g' l h
    have : g' = g := by omega
    subst this
    rw [hm] at h
    cases h
    rw [hbase rfl]
  · rw [hc] at h
    cases h
    exact ⟨c', hrow, hsz⟩
  · intro loc h
    simp only [m', true_and, and_self, if_true, Option.some.injEq] at h
    subst h
    refine ⟨c', t, hrow, fun i a hia => ?_⟩
    obtain ⟨v, h1, h2, h3⟩ := hl i a hia
    exact ⟨v, h1, h2, keep a v h3⟩

/-- Cells laid over cells. -/
def over (cs : List AV) (o : Nat) (xs : List AV) : List AV := cs.take o ++ xs ++ cs.drop (o + xs.length)

theorem over_lay {m ro w} {cs : List AV} {c : Array Value} {base : Nat} (h : Lay m ro w cs c base) (o : Nat) {xs : List AV} {vs : List Value} (hx : VsRel m ro w xs vs) (h1 : ∀ v ∈ vs, v.oneCell' = true)
    (hfit : base + o + xs.length ≤ c.size) (ho : o ≤ cs.length) :
    Lay m ro w (over cs o xs) (c.toList.take (base + o) ++ vs ++ c.toList.drop (base + o + vs.length)).toArray base := by
  intro i a hia
  have hlen := hx.length
  have hcl : c.toList.length = c.size := Array.length_toList
  have e : (c.toList.take (base + o) ++ vs ++ c.toList.drop (base + o + vs.length)).toArray[base + i]? = (c.toList.take (base + o) ++ vs ++ c.toList.drop (base + o + vs.length))[base + i]? := by simp
  rw [e]
  unfold over at hia
  by_cases c1 : i < o
  · have hi' : cs[i]? = some a := by
      rw [List.append_assoc, List.getElem?_append_left (by simp; omega), List.getElem?_take, if_pos c1] at hia; exact hia
    obtain ⟨v, hv, k1, k2⟩ := h i a hi'
    refine ⟨v, ?_, k1, k2⟩
    rw [List.append_assoc, List.getElem?_append_left (by simp; omega), List.getElem?_take, if_pos (by omega)]
    simpa using hv
  · by_cases c2 : i < o + xs.length
    · have hi' : xs[i - o]? = some a := by
        rw [List.append_assoc, List.getElem?_append_right (by simp; omega), List.getElem?_append_left (by simp; omega)] at hia
        simpa [Nat.min_eq_left ho] using hia
      obtain ⟨v, hv, hr⟩ := hx.get hi'
      refine ⟨v, ?_, h1 v (List.mem_of_getElem? hv), hr⟩
      rw [List.append_assoc, List.getElem?_append_right (by simp; omega), List.getElem?_append_left (by simp; omega)]
      simp only [List.length_take, hcl]
      rw [show base + i - min (base + o) c.size = i - o by omega]
      exact hv
    · have hi' : cs[i]? = some a := by
        rw [List.getElem?_append_right (by simp; omega), List.getElem?_drop] at hia
        simp only [List.length_append, List.length_take, Nat.min_eq_left ho] at hia
        rwa [show o + xs.length + (i - (o + xs.length)) = i by omega] at hia
      obtain ⟨v, hv, k1, k2⟩ := h i a hi'
      refine ⟨v, ?_, k1, k2⟩
      rw [List.getElem?_append_right (by simp; omega), List.getElem?_drop]
      simp only [List.length_append, List.length_take, hcl]
      rw [show base + o + vs.length + (base + i - (min (base + o) c.size + vs.length)) = base + i by omega]
      simpa using hv

theorem sem_store {P : Program} {o : Oper} {ρ n t x y b g i cs xs k} (ho : o.op = .store t x y) (h1 : ρ x = .ref b g i) (h2 : (ρ y).cells = some xs) (ht : tySz P t = some k) (hk : xs.length = k) (h0 : 0 < k) (hfit : i + k ≤ cs.length) :
    OpSem P o ρ n { v := .junk, need := [(b, .cells g cs)], upd := some (b, .cells g (over cs i xs)) } := by
  intro m ro H w a hi hx hn hf next Q kk
  have e1 := hx x (by simp [ho, Op.operands])
  have e2 := hx y (by simp [ho, Op.operands])
  rw [h1] at e1
  simp only [VRel] at e1
  obtain ⟨cb, base, hm, e1⟩ := e1
  obtain ⟨r1, r2⟩ := cells_rel e2 h2
  have hb := hn (b, .cells g cs) (by simp)
  simp only at hb
  obtain ⟨c, t', hc, hl⟩ := hi.blk b _ hb _ hm
  obtain ⟨ti, hti, hts⟩ : ∃ ti, P.info? t = some ti ∧ ti.size = k := by
    unfold tySz at ht
    cases h : P.info? t with
    | none => simp [h] at ht
    | some ti => exact ⟨ti, rfl, by simpa [h] using ht⟩
  have hfit' : base + i + xs.length ≤ c.size := by
    have hlast : cs[cs.length - 1]? = some (cs[cs.length - 1]'(by omega)) := List.getElem?_eq_getElem _
    obtain ⟨v, hv, _⟩ := hl _ _ hlast
    have := (Array.getElem?_eq_some_iff.1 hv).1
    omega
  have hrun := run_storeCells_at P cb (base + i) t' (a.eval y).cells.toList 0 c w hc (by rw [← r1.length]; omega) r2
  simp only [Nat.add_zero] at hrun
  have hlay := over_lay hl i r1 r2 hfit' (by omega)
  have hrl := r1.length
  obtain ⟨k1, k2⟩ := hi.write (n := n) hb hm hc (c.toList.take (base + i) ++ (a.eval y).cells.toList ++ c.toList.drop (base + i + (a.eval y).cells.toList.length)).toArray
    (by simp only [List.size_toArray, List.length_append, List.length_take, List.length_drop, Array.length_toList] at *; omega) g base (Nat.le_refl _) (fun _ => rfl) (over cs i xs) (v := .junk) (nd := [(b, .cells g cs)]) hlay
  have hex : (execOp a.eval o).run P w = .ok .skip (w.setRow cb (c.toList.take (base + i) ++ (a.eval y).cells.toList ++ c.toList.drop (base + i + (a.eval y).cells.toList.length)).toArray) := by
    have hsz : (a.eval y).cells.size = ti.size := by rw [hts, ← hk, hrl]; simp
    simp [execOp, ho, e1, Instr.storeAt, Instr.sureAddr, storeVar, run_sizeOf' hti, hsz, hrun]
  unfold Oper.wp
  rw [hex]
  refine kk _ _ _ undef (by simp only [VRel]) k1 k2 (fun b' g₁ hne => ?_)
  by_cases hcc : b' = b ∧ g₁ = g
  · exact .inl ⟨_, by rw [hcc.1]⟩
  · simp [hcc] at hne

end Tab
