/- More of the abstract machine's operations: append to nil, slicing, ranging over a string, closures, interfaces, max and min. -/
import Derived.Test.YthdpblbclgpnjaaOp4
set_option linter.unusedVariables false
set_option linter.unusedSimpArgs false
set_option linter.unusedSectionVars false
namespace Tab
open Go
variable [Globs]

theorem sem_append_nil {P : Program} {o : Oper} {ρ n} {c : Call} {x y : Operand} {t xt e : TypeId} {z by' es k xs nd} (ho : o.op = .call c) (hc : c.callee = .builtin .append) (ha : c.args = #[x, y]) (ht : c.argTypes = #[t, xt])
    (he : tyElem P t = some e) (hz : tyE P e = some (z, by')) (hno : tyNoInt P xt = true) (h1 : ρ x = .sl .nil 0 []) (hes : z.length = es)
    (hx : XSem P (ρ y) es nd k xs) (hxl : xs.length = k * es) (h63 : k ≤ 9223372036854775807) (hbytes : k * by' ≤ 140737488355328) :
    OpSem P o ρ n { v := .hs n 0 0 k es, need := nd, new := some (.cells 0 xs) } := by
  obtain ⟨ie, zv, hinfo, hzero, ⟨hzs, hone⟩, rfl, hby, hlen⟩ := tyE_some hz
  have hu := tyElem_some he
  rw [hes] at hlen
  subst hlen
  subst hby
  intro m ro H w a hi hr hn hf next Q kk
  obtain ⟨hHn, hmn⟩ := hf _ rfl
  have e1 := hr x (by simp [ho, Op.operands, Call.operands, hc, ha])
  have e2 := hr y (by simp [ho, Op.operands, Call.operands, hc, ha])
  rw [h1] at e1
  have hv : a.eval x = .slice none 0 0 := by
    simp only [VRel] at e1
    rcases e1 with ⟨_, h, _⟩ | ⟨h, _⟩
    · exact h
    · exact absurd rfl h
  obtain ⟨vs, v1, v2, v3⟩ := hx m ro H w (a.eval y) hi e2 hn
  have hvl : vs.length = k * ie.size := by rw [← v1.length]; exact hxl
  have hmne : ∀ (m' : Mp) (l : Loc), (m' = fun b₁ g₁ => if b₁ = n ∧ g₁ = 0 then some l else m b₁ g₁) → ∀ b' g₁, m' b' g₁ ≠ m b' g₁ →
      (∃ y, (none : Option (Nat × Blk)) = some (b', y)) ∨ (b' = n ∧ (some (Blk.cells 0 xs)).isSome) := by
    intro m' l e b' g₁ hne
    subst e
    by_cases hcc : b' = n ∧ g₁ = 0
    · exact .inr ⟨hcc.1, rfl⟩
    · simp [hcc] at hne
  rcases Nat.eq_zero_or_pos k with rfl | hk
  · have hrun := run_append_none (P := P) hu hinfo hno o.type (v3 w rfl).1 (v3 w rfl).2
    rw [← hv] at hrun
    have hex := exec_append ho hc ha ht hrun
    have hxs : xs = [] := List.eq_nil_of_length_eq_zero (by simpa using hxl)
    obtain ⟨k1, k2⟩ := hi.change₀ (ro' := ro) (m' := fun b₁ g₁ => if b₁ = n ∧ g₁ = 0 then some .void else m b₁ g₁) (H' := app H n { v := .hs n 0 0 0 ie.size, need := nd, new := some (.cells 0 xs) })
      n (.cells 0 xs)
      (fun b₁ g₁ l h => by
        by_cases hcc : b₁ = n ∧ g₁ = 0
        · obtain ⟨rfl, rfl⟩ := hcc; rw [hmn] at h; simp at h
        · simp only [hcc, if_false]; exact h)
      (fun b₁ g₁ => by
        by_cases hcc : b₁ = n ∧ g₁ = 0
        · exact .inr ⟨hcc.1, by rw [hcc.2]; rfl, by simp [hcc]⟩
        · exact .inl (by simp [hcc]))
      (fun b₁ => by simp only [app])
      (fun g₁ cb base h => by simp only [Blk.own, Option.some.injEq] at h; subst h; simp)
      (fun g₁ h g₂ l h2 => by
        by_cases hcc : g₂ = 0
        · omega
        · simp only [hcc, and_false, if_false] at h2; rw [hmn] at h2; simp at h2)
      (fun _ h => h) (fun _ h => .inl h)
      (fun _ loc h => by
        simp only [and_self, if_true, Option.some.injEq] at h
        subst h
        exact hxs)
    unfold Oper.wp
    rw [hex]
    refine kk _ _ _ _ ?_ k1 k2 (hmne _ _ rfl)
    simp only [VRel]
    exact ⟨.void, by simp, by simp [HsRel, hv]⟩
  · obtain ⟨newCap, hcap, hrun⟩ := run_append_out (P := P) (olds := []) hu hinfo hzero hno o.type hv (v3 w rfl).1 (by rw [hv]; simp [Builtin.firstCells]) (v3 w.drew rfl).2 (by omega) (by omega) (by rwa [Nat.zero_add])
    have hex := exec_append ho hc ha ht hrun
    obtain ⟨k1, k2⟩ := hi.rowAt (b := n) (g' := 0) rfl (fun g l h => by rw [hmn] at h; simp at h) (H' := app H n { v := .hs n 0 0 k ie.size, need := nd, new := some (.cells 0 xs) })
      (fun b₁ => by simp only [app]) v1 v2 (c := (#[] : Array Value) ++ vs.toArray ++ Builtin.zeroCells zv.cells (newCap - (0 + k))) (t := e) (fun j v hj => append_get (olds := []) j v hj)
    unfold Oper.wp
    rw [hex]
    refine kk _ _ _ _ ?_ k1 k2 (hmne _ _ rfl)
    simp only [VRel]
    refine ⟨.at w.heap.size 0, by simp, newCap, by simp, by omega, _, e, (0, 0), alloc_heap w.drew _, ?_⟩
    simp only [Array.size_append, List.size_toArray, hvl, size_zeroCells, hzs, Nat.zero_add, ← Nat.add_mul, List.size_toArray, List.length_nil]
    exact Nat.mul_le_mul_right _ (by omega)

/-! ### Slicing -/

def SK.cut : SK → SK
  | .nil => .nil
  | .any => .any
  | _ => .nn

def optI (ρ : Operand → AV) : Option Operand → Option (Option Int)
  | none => some none
  | some x => match ρ x with | .int _ i => some (some i) | _ => none

def BndRel (a : Act) (x : Option Operand) (r : Option Int) : Prop := (x = none ∧ r = none) ∨ ∃ k i, r = some i ∧ x.map a.eval = some (.int k i)

theorem optI_rel {m ro w} {ρ : Operand → AV} {a : Act} {x : Option Operand} {r : Option Int} (h : optI ρ x = some r) (hx : ∀ y, x = some y → VRel m ro w (ρ y) (a.eval y)) : BndRel a x r := by
  cases x with
  | none => simp only [optI, Option.some.injEq] at h; subst h; exact .inl ⟨rfl, rfl⟩
  | some y =>
    simp only [optI] at h
    split at h
    · rename_i k i hy
      have := hx y rfl
      rw [hy] at this
      simp only [VRel] at this
      simp only [Option.some.injEq] at h
      subst h
      exact .inr ⟨k, i, rfl, by simp [this]⟩
    · simp at h

theorem run_sliceBound {P : Program} {w : World} {k : IntKind} {i : Int} {y : Nat} {code : BoundsCode} (h0 : 0 ≤ i) (h1 : i ≤ y) : (Instr.sliceBound (.int k i) y code).run P w = .ok i.toNat w := by
  simp [Instr.sliceBound, asIntOf, h0, h1]

/-- The bounds of x[lo:hi]. -/
theorem run_sliceBounds {P : Program} {w : World} {b : Bool} {len cap : Nat} {lo hi : Option Value} {l h : Int}
    (hlo : (lo = none ∧ l = 0) ∨ ∃ k, lo = some (.int k l)) (hhi : (hi = none ∧ h = len) ∨ ∃ k, hi = some (.int k h)) (h0 : 0 ≤ l) (h1 : l ≤ h) (h2 : h ≤ cap) :
    (Instr.sliceBounds b len cap lo hi none).run P w = .ok (l.toNat, h.toNat, cap) w := by
  rcases hlo with ⟨rfl, rfl⟩ | ⟨k, rfl⟩ <;> rcases hhi with ⟨rfl, rfl⟩ | ⟨k', rfl⟩
  · simp [Instr.sliceBounds]
  · simp [Instr.sliceBounds, run_sliceBound (P := P) (w := w) (show 0 ≤ h by omega) h2]
  · have h3 : l ≤ ((len : Int).toNat : Int) := by omega
    simp only [Instr.sliceBounds, Sem.run_bind, Sem.run_pure, Result.andThen_ok, run_sliceBound (P := P) (w := w) h0 h3, Option.isSome_none, Bool.false_eq_true, if_false, Int.toNat_natCast]
    rw [show (len : Int).toNat = len from by simp] at h3
    simp only [run_sliceBound (P := P) (w := w) h0 h3, Result.andThen_ok]
  · have h3 : l ≤ (h.toNat : Int) := by omega
    simp [Instr.sliceBounds, run_sliceBound (P := P) (w := w) (show 0 ≤ h by omega) h2, run_sliceBound (P := P) (w := w) h0 h3]

theorem slice_operands {o : Oper} {t : TypeId} {x : Operand} {lo hi mx : Option Operand} (ho : o.op = .slice t x lo hi mx) :
    x ∈ o.op.operands ∧ (∀ y, lo = some y → y ∈ o.op.operands) ∧ (∀ y, hi = some y → y ∈ o.op.operands) ∧ (∀ y, mx = some y → y ∈ o.op.operands) := by
  rw [ho]
  refine ⟨by simp [Op.operands], fun y h => ?_, fun y h => ?_, fun y h => ?_⟩ <;> (subst h; simp [Op.operands])

theorem lo_of {a : Act} {x : Option Operand} {r : Option Int} (h : BndRel a x r) : (x.map a.eval = none ∧ r.getD 0 = 0) ∨ ∃ k, x.map a.eval = some (.int k (r.getD 0)) := by
  rcases h with ⟨rfl, rfl⟩ | ⟨k, i, rfl, h⟩
  · exact .inl ⟨rfl, rfl⟩
  · exact .inr ⟨k, h⟩
theorem hi_of {a : Act} {x : Option Operand} {r : Option Int} {N : Nat} (h : BndRel a x r) : (x.map a.eval = none ∧ r.getD (N : Int) = (N : Int)) ∨ ∃ k, x.map a.eval = some (.int k (r.getD (N : Int))) := by
  rcases h with ⟨rfl, rfl⟩ | ⟨k, i, rfl, h⟩
  · exact .inl ⟨rfl, rfl⟩
  · exact .inr ⟨k, h⟩

theorem sem_slice_sl {P : Program} {o : Oper} {ρ n t x e z by' k} {N : Nat} {cs : List AV} {lo hi : Option Operand} {rl rh : Option Int} (ho : o.op = .slice t x lo hi none) (h1 : ρ x = .sl k N cs)
    (hlo : optI ρ lo = some rl) (hhi : optI ρ hi = some rh) (he : tyElem P t = some e) (hz : tyE P e = some (z, by'))
    (h0 : 0 ≤ rl.getD 0) (h2 : rl.getD 0 ≤ rh.getD (N : Int)) (h3 : rh.getD (N : Int) ≤ N) :
    OpSem P o ρ n { v := .sl k.cut ((rh.getD (N : Int)).toNat - (rl.getD 0).toNat) ((cs.drop ((rl.getD 0).toNat * z.length)).take (((rh.getD (N : Int)).toNat - (rl.getD 0).toNat) * z.length)) } := by
  obtain ⟨ie, zv, hinfo, hzero, ⟨hzs, hone⟩, _, hby, hlen⟩ := tyE_some hz
  have hu := tyElem_some he
  refine OpSem.value fun m ro H w a hi' hx _ => ?_
  obtain ⟨m1, m2, m3, _⟩ := slice_operands ho
  have e1 := hx x m1
  rw [h1] at e1
  simp only [VRel] at e1
  have c1 := lo_of (optI_rel (a := a) hlo (fun y h => hx y (m2 y h)))
  have c2 := hi_of (N := N) (optI_rel (a := a) hhi (fun y h => hx y (m3 y h)))
  rcases e1 with ⟨hk, e1, rfl, rfl⟩ | ⟨hk, ad, cap, e1, hle, hfull, hc⟩
  · have b1 : rl.getD 0 = 0 := by omega
    have b2 : rh.getD ((0 : Nat) : Int) = 0 := by omega
    rw [b1] at c1 h0 h2 ⊢
    rw [b2] at c2 h2 h3 ⊢
    have hb := run_sliceBounds (P := P) (w := w) (b := true) (len := 0) (cap := 0) c1 c2 (by omega) (by omega) (by omega)
    refine ⟨.slice none 0 0, ?_, ?_⟩
    · simp [execOp, ho, e1, Instr.sliceAt, run_underlying' hu, Instr.slice, hb, run_sizeOf' hinfo]
    · simp only [VRel]
      exact .inl ⟨by rcases hk with rfl | rfl <;> simp [SK.cut], by simp, by simp, by simp⟩
  · have hb := run_sliceBounds (P := P) (w := w) (b := true) (len := N) (cap := cap) c1 c2 h0 h2 (by omega)
    have hex : (execOp a.eval o).run P w = .ok (.value (.slice (if cap = (rl.getD 0).toNat then some ad else some (ad.add ((rl.getD 0).toNat * ie.size))) ((rh.getD (N : Int)).toNat - (rl.getD 0).toNat) (cap - (rl.getD 0).toNat))) w := by
      simp only [execOp, ho, e1, Option.map_none, Sem.run_bind, Sem.run_pure, Instr.sliceAt, run_underlying' hu, Result.andThen_ok, Instr.slice, hb, run_sizeOf' hinfo, Option.map_some]
    refine ⟨_, hex, ?_⟩
    simp only [VRel]
    refine .inr ⟨by cases k <;> simp_all [SK.cut], ?_⟩
    rw [← hlen]
    by_cases hcl : cap = (rl.getD 0).toNat
    · refine ⟨ad, cap - (rl.getD 0).toNat, by simp [hcl], by omega, by cases k <;> simp [SK.cut], .inl ⟨by omega, ?_⟩⟩
      have : (rh.getD (N : Int)).toNat - (rl.getD 0).toNat = 0 := by omega
      rw [this, Nat.zero_mul]
      simp
    · refine ⟨ad.add ((rl.getD 0).toNat * ie.size), cap - (rl.getD 0).toNat, by simp [hcl], by omega, by cases k <;> simp [SK.cut], ?_⟩
      rcases hc with ⟨rfl, rfl⟩ | ⟨hsp, hc⟩
      · exact .inl ⟨by omega, by simp⟩
      · obtain ⟨cb, off, sp⟩ := ad
        simp only at hsp hc
        subst hsp
        refine .inr ⟨by rw [addr_add], ?_⟩
        rw [addr_add]
        exact (hc.drop _).take _

theorem sem_slice_hs {P : Program} {o : Oper} {ρ n t x e z by' b g i} {N es : Nat} {lo hi : Option Operand} {rl rh : Option Int} (ho : o.op = .slice t x lo hi none) (h1 : ρ x = .hs b g i N es)
    (hlo : optI ρ lo = some rl) (hhi : optI ρ hi = some rh) (he : tyElem P t = some e) (hz : tyE P e = some (z, by')) (hes : z.length = es)
    (h0 : 0 ≤ rl.getD 0) (h2 : rl.getD 0 ≤ rh.getD (N : Int)) (h3 : rh.getD (N : Int) ≤ N) (h4 : rl.getD 0 = 0 ∨ rl.getD 0 < rh.getD (N : Int)) :
    OpSem P o ρ n { v := .hs b g (i + (rl.getD 0).toNat * es) ((rh.getD (N : Int)).toNat - (rl.getD 0).toNat) es } := by
  obtain ⟨ie, zv, hinfo, hzero, ⟨hzs, hone⟩, _, hby, hlen⟩ := tyE_some hz
  have hu := tyElem_some he
  rw [hes] at hlen
  subst hlen
  refine OpSem.value fun m ro H w a hi' hx _ => ?_
  obtain ⟨m1, m2, m3, _⟩ := slice_operands ho
  have e1 := hx x m1
  rw [h1] at e1
  simp only [VRel] at e1
  have c1 := lo_of (optI_rel (a := a) hlo (fun y h => hx y (m2 y h)))
  have c2 := hi_of (N := N) (optI_rel (a := a) hhi (fun y h => hx y (m3 y h)))
  obtain ⟨loc, hm, hh⟩ := e1
  cases loc with
  | void =>
    simp only [HsRel] at hh
    obtain ⟨e1, rfl, rfl⟩ := hh
    have b1 : rl.getD 0 = 0 := by omega
    have b2 : rh.getD ((0 : Nat) : Int) = 0 := by omega
    rw [b1] at c1 h0 h2 ⊢
    rw [b2] at c2 h2 h3 ⊢
    have hb := run_sliceBounds (P := P) (w := w) (b := true) (len := 0) (cap := 0) c1 c2 (by omega) (by omega) (by omega)
    refine ⟨.slice none 0 0, ?_, ?_⟩
    · simp [execOp, ho, e1, Instr.sliceAt, run_underlying' hu, Instr.slice, hb, run_sizeOf' hinfo]
    · simp only [VRel]
      exact ⟨.void, hm, by simp [HsRel]⟩
  | «at» cb base =>
    simp only [HsRel] at hh
    obtain ⟨cap, e1, hle, c, t', fr, hc, hsz⟩ := hh
    have hb := run_sliceBounds (P := P) (w := w) (b := true) (len := N) (cap := cap) c1 c2 h0 h2 (by omega)
    have hex : (execOp a.eval o).run P w = .ok (.value (.slice (if cap = (rl.getD 0).toNat then some ⟨cb, base + i, none⟩ else some ⟨cb, base + i + (rl.getD 0).toNat * ie.size, none⟩) ((rh.getD (N : Int)).toNat - (rl.getD 0).toNat) (cap - (rl.getD 0).toNat))) w := by
      simp only [execOp, ho, e1, Option.map_none, Sem.run_bind, Sem.run_pure, Instr.sliceAt, run_underlying' hu, Result.andThen_ok, Instr.slice, hb, run_sizeOf' hinfo, Option.map_some, addr_add]
    refine ⟨_, hex, ?_⟩
    simp only [VRel]
    refine ⟨.at cb base, hm, cap - (rl.getD 0).toNat, ?_, by omega, c, t', fr, hc, ?_⟩
    · by_cases hcl : cap = (rl.getD 0).toNat
      · have : (rl.getD 0).toNat = 0 := by omega
        rw [this] at hcl ⊢
        simp [hcl]
      · simp [hcl, Nat.add_assoc]
    · have hl : (rl.getD 0).toNat ≤ cap := by omega
      have : (rl.getD 0).toNat * ie.size + (cap - (rl.getD 0).toNat) * ie.size = cap * ie.size := by rw [← Nat.add_mul]; congr 1; omega
      omega

theorem sem_slice_str {P : Program} {o : Oper} {ρ n t x} {s : List UInt8} {lo hi : Option Operand} {rl rh : Option Int} (ho : o.op = .slice t x lo hi none) (h1 : ρ x = .str s)
    (hlo : optI ρ lo = some rl) (hhi : optI ρ hi = some rh) (ht : isStr P t = true)
    (h0 : 0 ≤ rl.getD 0) (h2 : rl.getD 0 ≤ rh.getD (s.length : Int)) (h3 : rh.getD (s.length : Int) ≤ s.length) :
    OpSem P o ρ n { v := .str ((s.drop (rl.getD 0).toNat).take ((rh.getD (s.length : Int)).toNat - (rl.getD 0).toNat)) } := by
  have hu := isStr_some ht
  refine OpSem.value fun m ro H w a hi' hx _ => ?_
  obtain ⟨m1, m2, m3, _⟩ := slice_operands ho
  have e1 := hx x m1
  rw [h1] at e1
  simp only [VRel] at e1
  have c1 := lo_of (optI_rel (a := a) hlo (fun y h => hx y (m2 y h)))
  have c2 := hi_of (N := s.length) (optI_rel (a := a) hhi (fun y h => hx y (m3 y h)))
  have hb := run_sliceBounds (P := P) (w := w) (b := false) (len := (ByteArray.mk s.toArray).size) (cap := (ByteArray.mk s.toArray).size) c1 (by rw [ba_size]; exact c2) h0 h2 (by rw [ba_size]; exact h3)
  refine ⟨.string ((ByteArray.mk s.toArray).extract (rl.getD 0).toNat (rh.getD (s.length : Int)).toNat), ?_, ?_⟩
  · simp [execOp, ho, e1, Instr.sliceAt, run_underlying' hu, Instr.slice, hb]
  · simp only [VRel]
    congr 1
    rw [ByteArray.extract_mk]

/-! ### Ranging over a string -/

theorem sem_range_str {P : Program} {o : Oper} {ρ n t x} {s : List UInt8} (ho : o.op = .range t x) (h1 : ρ x = .str s) (ht : isStr P t = true) :
    OpSem P o ρ n { v := .ref n 0 0, new := some (.siter s 0) } := by
  have hu := isStr_some ht
  intro m ro H w a hi hx hn hf next Q kk
  obtain ⟨hHn, hmn⟩ := hf _ rfl
  have e1 := hx x (by simp [ho, Op.operands])
  rw [h1] at e1
  simp only [VRel] at e1
  have hex : (execOp a.eval o).run P w = .ok (.value (.pointer (some ⟨w.heap.size, 0, none⟩))) (w.alloc (.stringIter ⟨s.toArray⟩ 0)) := by
    simp [execOp, ho, e1, Instr.range, run_underlying' hu]
  obtain ⟨k1, k2⟩ := hi.change (m' := fun b₁ g₁ => if b₁ = n ∧ g₁ = 0 then some (.at w.heap.size 0) else m b₁ g₁) (H' := app H n { v := .ref n 0 0, new := some (.siter s 0) }) (w' := w.alloc (.stringIter ⟨s.toArray⟩ 0)) n (.siter s 0) 0 w.heap.size 0 rfl (fun _ _ => rfl) (fun b => by simp only [app])
    (fun g l h => by simp [hmn] at h) (fun l h => by simp [hmn] at h) (.inl (Nat.le_refl _)) (by simp) (by simp) rfl rfl rfl (fun c hc _ => alloc_old w _ hc)
    (fun c t fr h => by
      have : w.heap[w.heap.size]? = none := Array.getElem?_eq_none (Nat.le_refl _)
      rw [this] at h
      simp at h)
    (fun keep loc h => by
      simp only [and_self, if_true, Option.some.injEq] at h
      exact ⟨w.heap.size, h.symm, alloc_heap w _⟩)
  unfold Oper.wp
  rw [hex]
  refine kk _ _ _ _ ?_ k1 k2 (fun b g hne => ?_)
  · simp only [VRel]; exact ⟨w.heap.size, 0, by simp, rfl⟩
  · by_cases hc : b = n ∧ g = 0
    · exact .inr ⟨hc.1, rfl⟩
    · simp [hc] at hne

/-- The character at a place of a text, and how many bytes it has. -/
def dec (s : List UInt8) (pos : Nat) : Nat × Nat := Utf8.decode ⟨s.toArray⟩ pos

theorem sem_next_end {P : Program} {o : Oper} {ρ n x b} {s : List UInt8} {pos : Nat} (ho : o.op = .next x true) (h1 : ρ x = .ref b 0 0) (hp : s.length ≤ pos) :
    OpSem P o ρ n { v := .tup [.bool false], need := [(b, .siter s pos)] } := by
  refine OpSem.value fun m ro H w a hi hx hn => ?_
  have e1 := hx x (by simp [ho, Op.operands])
  rw [h1] at e1
  simp only [VRel] at e1
  obtain ⟨cb, base, hm, e1⟩ := e1
  have hb := hn (b, .siter s pos) (by simp)
  obtain ⟨cb', e, hc⟩ := hi.blk b _ hb _ hm
  simp only [Loc.at.injEq] at e
  obtain ⟨rfl, rfl⟩ := e
  refine ⟨.tuple #[.bool false], ?_, ?_⟩
  · have hlt := (Array.getElem?_eq_some_iff.1 hc).1
    simp [execOp, ho, e1, Instr.next, getObj, Sem.run, hc, ba_size, Nat.not_lt.2 hp]
  · simp only [VRel]; exact ⟨_, rfl, by simp [VsRel, VRel]⟩

theorem sem_next_some {P : Program} {o : Oper} {ρ n x b} {s : List UInt8} {pos : Nat} (ho : o.op = .next x true) (h1 : ρ x = .ref b 0 0) (hp : pos < s.length) :
    OpSem P o ρ n { v := .tup [.bool true, .int .i64 pos, .int .i32 (dec s pos).1], need := [(b, .siter s pos)], upd := some (b, .siter s (pos + (dec s pos).2)) } := by
  intro m ro H w a hi hx hn hf next Q kk
  have e1 := hx x (by simp [ho, Op.operands])
  rw [h1] at e1
  simp only [VRel] at e1
  obtain ⟨cb, base, hm, e1⟩ := e1
  have hb := hn (b, .siter s pos) (by simp)
  obtain ⟨cb', e, hc⟩ := hi.blk b _ hb _ hm
  simp only [Loc.at.injEq] at e
  obtain ⟨rfl, rfl⟩ := e
  have hlt := (Array.getElem?_eq_some_iff.1 hc).1
  let w' : World := { w with heap := w.heap.setIfInBounds cb (.stringIter ⟨s.toArray⟩ (pos + (dec s pos).2)) }
  have hex : (execOp a.eval o).run P w = .ok (.value (.tuple #[.bool true, .int .i64 pos, .int .i32 (dec s pos).1])) w' := by
    simp [execOp, ho, e1, Instr.next, getObj, setObj, Sem.run, hc, ba_size, hp, dec, goInt, w']
  have hself : w'.heap[cb]? = some (.stringIter ⟨s.toArray⟩ (pos + (dec s pos).2)) := by
    simp [w', hlt]
  obtain ⟨k1, k2⟩ := hi.change (m' := m) (H' := app H n { v := .tup [.bool true, .int .i64 pos, .int .i32 (dec s pos).1], need := [(b, .siter s pos)], upd := some (b, .siter s (pos + (dec s pos).2)) }) (w' := w') b (.siter s (pos + (dec s pos).2)) 0 cb 0 rfl
    (fun b₁ g₁ => by split <;> simp_all) (fun b => by simp only [app]) (fun g l h => hi.gen b _ 0 hb rfl g l h) (fun l h => by rw [hm] at h; cases h; rfl) (.inr ⟨_, 0, 0, hb, rfl, hm⟩) (by simp [w', hlt]) (by simp [w']) rfl rfl rfl
    (fun c hc hne => by simp [w', Ne.symm hne]) (fun c t fr h => by rw [hc] at h; simp at h)
    (fun keep loc h => by
      rw [hm] at h
      exact ⟨cb, by simpa using h.symm, hself⟩)
  unfold Oper.wp
  rw [hex]
  refine kk _ _ _ _ ?_ k1 k2 (fun b g hne => absurd rfl hne)
  simp only [VRel]
  exact ⟨_, rfl, by simp [VsRel, VRel]⟩

/-! ### Pointers that aren't nil, closures, interfaces, max and min -/

theorem sem_nilCheck {P : Program} {o : Oper} {ρ n x} (ho : o.op = .nilCheck x) (h1 : (∃ b g i, ρ x = .ref b g i) ∨ (∃ cs, ρ x = .tref cs) ∨ (∃ f a b, ρ x = .fn (.func f) a b)) : OpSem P o ρ n { v := ρ x } := by
  refine OpSem.value fun m ro H w a hi hx _ => ?_
  have e1 := hx x (by simp [ho, Op.operands])
  refine ⟨a.eval x, ?_, e1⟩
  rcases h1 with ⟨b, g, i, h⟩ | ⟨cs, h⟩ | ⟨f, p, q, h⟩
  · rw [h] at e1
    simp only [VRel] at e1
    obtain ⟨_, _, _, e1⟩ := e1
    simp [execOp, ho, e1]
  · rw [h] at e1
    simp only [VRel] at e1
    obtain ⟨_, _, e1, _⟩ := e1
    simp [execOp, ho, e1]
  · rw [h] at e1
    simp only [VRel] at e1
    obtain ⟨_, _, e1, _⟩ := e1
    simp [execOp, ho, e1]

theorem map_rel {m ro w} {ρ : Operand → AV} {a : Act} : ∀ (xs : List Operand), (∀ x ∈ xs, VRel m ro w (ρ x) (a.eval x)) → VsRel m ro w (xs.map ρ) (xs.map a.eval)
  | [], _ => by simp [VsRel]
  | x :: xs, h => by
    simp only [List.map_cons, VsRel]
    exact ⟨_, _, rfl, h x (by simp), map_rel xs fun y hy => h y (by simp [hy])⟩

theorem sem_makeFunc {P : Program} {o : Oper} {ρ n f first cap} (ho : o.op = .makeFunc f first cap) : OpSem P o ρ n { v := .fn f (first.toList.map ρ) (cap.toList.map ρ) } := by
  refine OpSem.value fun m ro H w a hi hx _ => ?_
  have hx' : ∀ x, x ∈ first.toList ++ cap.toList → VRel m ro w (ρ x) (a.eval x) := fun x h => hx x (by rw [ho]; simpa [Op.operands] using h)
  refine ⟨.func f (first.map a.eval) (cap.map a.eval), by simp [execOp, ho, Instr.makeFunc], ?_⟩
  simp only [VRel]
  refine ⟨_, _, rfl, ?_, ?_⟩
  · rw [Array.toList_map]; exact map_rel _ fun x h => hx' x (by simp [h])
  · rw [Array.toList_map]; exact map_rel _ fun x h => hx' x (by simp [h])

def tyConc (P : Program) (t : TypeId) : Bool := match P.underlying t with | some (.interface _) => false | some _ => true | none => false

theorem sem_makeInterface {P : Program} {o : Oper} {ρ n t x} (ho : o.op = .makeInterface t x) (ht : tyConc P t = true) : OpSem P o ρ n { v := .ifc t (ρ x) } := by
  refine OpSem.value fun m ro H w a hi hx _ => ?_
  have e1 := hx x (by simp [ho, Op.operands])
  refine ⟨.iface t (a.eval x), ?_, by simp only [VRel]; exact ⟨_, rfl, e1⟩⟩
  unfold tyConc at ht
  split at ht
  · simp at ht
  · rename_i d hd h
    have : (Instr.makeInterface t (a.eval x)).run P w = .ok (.iface t (a.eval x)) w := by
      simp only [Instr.makeInterface, Sem.run_bind, run_underlying' h, Result.andThen_ok]
      try rfl
    simp [execOp, ho, this]
  · simp at ht

theorem sem_max {P : Program} {o : Oper} {ρ n} {c : Call} {x y : Operand} {k k' : IntKind} {i j : Int} (ho : o.op = .call c) (hc : c.callee = .builtin .max) (ha : c.args = #[x, y]) (h1 : ρ x = .int k i) (h2 : ρ y = .int k' j) :
    OpSem P o ρ n { v := .int k (if j > i then j else i) } := by
  refine OpSem.value fun m ro H w a hi hx _ => ?_
  have e1 := hx x (by simp [ho, Op.operands, Call.operands, hc, ha])
  have e2 := hx y (by simp [ho, Op.operands, Call.operands, hc, ha])
  rw [h1] at e1
  rw [h2] at e2
  simp only [VRel] at e1 e2
  exact ⟨.int k (if j > i then j else i), by simp [execOp, ho, resolve, hc, ha, invoke, builtin, Builtin.max_, Builtin.max2, e1, e2], vrel_int⟩

theorem sem_min {P : Program} {o : Oper} {ρ n} {c : Call} {x y : Operand} {k k' : IntKind} {i j : Int} (ho : o.op = .call c) (hc : c.callee = .builtin .min) (ha : c.args = #[x, y]) (h1 : ρ x = .int k i) (h2 : ρ y = .int k' j) :
    OpSem P o ρ n { v := .int k (if j < i then j else i) } := by
  refine OpSem.value fun m ro H w a hi hx _ => ?_
  have e1 := hx x (by simp [ho, Op.operands, Call.operands, hc, ha])
  have e2 := hx y (by simp [ho, Op.operands, Call.operands, hc, ha])
  rw [h1] at e1
  rw [h2] at e2
  simp only [VRel] at e1 e2
  exact ⟨.int k (if j < i then j else i), by simp [execOp, ho, resolve, hc, ha, invoke, builtin, Builtin.min_, Builtin.min2, e1, e2], vrel_int⟩

/-- s == nil, of a slice. -/
def SK.isNil : SK → Nat → Option Bool
  | .nil, _ => some true
  | .any, n => if n = 0 then none else some false
  | _, _ => some false

theorem equalIn_slnil {P : Program} {t e : TypeId} (ht : P.underlying t = some (.slice e)) (d : Nat) (b : Option Addr) (n c : Nat) (w : World) : (Op.equalIn (d + 1) t (.slice b n c) (.slice none 0 0)).run P w = .ok b.isNone w := by
  cases b <;> simp [Op.equalIn, run_underlying' ht]

theorem sem_eqNil_sl {P : Program} {o : Oper} {ρ n t x y t' k N cs r} (ho : o.op = .binOp .eql t x y t') (h1 : ρ x = .sl k N cs) (h2 : ρ y = .sl .nil 0 []) (hs : isSlice P t = true) (hr : k.isNil N = some r) :
    OpSem P o ρ n { v := .bool r } := by
  refine OpSem.value fun m ro H w a hi hx _ => ?_
  have e1 := hx x (by simp [ho, Op.operands])
  have e2 := hx y (by simp [ho, Op.operands])
  rw [h1] at e1
  rw [h2] at e2
  obtain ⟨e, he⟩ := Option.isSome_iff_exists.1 hs
  have hu := tyElem_some he
  simp only [VRel] at e1 e2
  have e2' : a.eval y = .slice none 0 0 := by
    rcases e2 with ⟨_, h, _⟩ | ⟨h, _⟩
    · exact h
    · exact absurd rfl h
  have heq : ∀ (b : Option Addr) (n c : Nat), (Op.equal t (.slice b n c) (.slice none 0 0)).run P w = .ok b.isNone w := fun b n c => equalIn_slnil hu 9999 b n c w
  refine ⟨.bool r, ?_, vrel_bool⟩
  rcases e1 with ⟨hk, e1, rfl, _⟩ | ⟨hk, ad, cap, e1, _, _, _⟩
  · have : r = true := by rcases hk with rfl | rfl <;> simp [SK.isNil] at hr; exact hr
    simp only [execOp, ho, e1, e2', eqGuard_at_slice, Sem.run_bind, Sem.run_pure, Result.andThen_ok, binOp, heq, this, Option.isNone_none]
  · have : r = false := by
      cases k <;> simp [SK.isNil] at hr hk
      · exact hr.2
      · exact hr
      · exact hr
    simp only [execOp, ho, e1, e2', eqGuard_at_slice, Sem.run_bind, Sem.run_pure, Result.andThen_ok, binOp, heq, this, Option.isNone_some]

/-- p == nil, of a pointer; f == nil, of a function. -/
def ptrNil : AV → Option Bool
  | .nilp => some true
  | .ref _ _ _ => some false
  | .tref _ => some false
  | .nilf => some true
  | .fn _ _ _ => some false
  | _ => none

attribute [irreducible] dec
end Tab
