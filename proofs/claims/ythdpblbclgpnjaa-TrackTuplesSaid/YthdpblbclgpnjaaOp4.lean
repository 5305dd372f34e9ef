/- More of the abstract machine's operations: make, append, slicing, ranging over a string. -/
import Derived.Test.YthdpblbclgpnjaaOp3
set_option linter.unusedVariables false
set_option linter.unusedSimpArgs false
set_option linter.unusedSectionVars false
namespace Tab
open Go
variable [Globs]

theorem sem_makeSlice {P : Program} {o : Oper} {ρ n t e x y kl kc} {l c : Int} {z by'} (ho : o.op = .makeSlice t x y) (h1 : ρ x = .int kl l) (h2 : ρ y = .int kc c) (he : tyElem P t = some e) (hz : tyE P e = some (z, by'))
    (h0 : 0 ≤ l) (hlc : l ≤ c) (hb : (by' : Int) * c ≤ 281474976710656) (h63 : c ≤ 9223372036854775807) :
    OpSem P o ρ n { v := .hs n 0 0 l.toNat z.length, new := some (.cells 0 (reps z c.toNat)) } := by
  obtain ⟨i, zv, hinfo, hzero, ⟨hzs, hone⟩, rfl, hby, hlen⟩ := tyE_some hz
  have hu := tyElem_some he
  refine OpSem.newRow _ fun m ro H w a hi hx _ => ?_
  have e1 := hx x (by simp [ho, Op.operands])
  have e2 := hx y (by simp [ho, Op.operands])
  rw [h1] at e1
  rw [h2] at e2
  simp only [VRel] at e1 e2
  obtain ⟨r1, r2⟩ := reps_rel (m := m) (ro := ro) (w := w) zv hone c.toNat
  have hr := run_make (P := P) w t e i zv hu hinfo hzero kl kc l c h0 hlc (by rw [hby]; exact hb) h63
  refine ⟨.slice (some ⟨w.heap.size, 0, none⟩) l.toNat c.toNat, madeCells zv.cells (c.toNat * i.size), e, _, ?_, r1, r2, ?_, fun m' ro' w' h hc => hs_new h hc (by omega) ?_⟩
  · simp only [execOp, ho, e1, e2, Sem.run_bind, Sem.run_pure, hr, Result.andThen_ok]
  · intro j v hj
    rw [← hzs]
    rw [Array.getElem?_toList] at hj
    exact hj
  · simp only [size_madeCells, List.length_map, Array.length_toList, hzs, Nat.le_refl]

/-! ### append -/

/-- A slice's type, or a text's. -/
def tyNoInt (P : Program) (t : TypeId) : Bool := match P.underlying t with | some (.slice _) => true | some .string => true | _ => false

theorem tyNoInt_some {P : Program} {t : TypeId} (h : tyNoInt P t = true) : (∃ e, P.underlying t = some (.slice e)) ∨ P.underlying t = some .string := by
  unfold tyNoInt at h
  split at h
  · rename_i e he; exact .inl ⟨e, he⟩
  · rename_i he; exact .inr he
  · simp at h

/-- What append's second argument reads as: k elements, these cells. -/
def XSem (P : Program) (a : AV) (es : Nat) (nd : List (Nat × Blk)) (k : Nat) (xs : List AV) : Prop :=
  ∀ m ro H w (v : Value), Inv m ro H w → VRel m ro w a v → (∀ p ∈ nd, H p.1 = some p.2) →
    ∃ vs, VsRel m ro w xs vs ∧ (∀ v ∈ vs, v.oneCell' = true) ∧ ∀ w' : World, w'.heap = w.heap → (Builtin.lenOf v).run P w' = .ok k w' ∧ (Builtin.firstCells es k v).run P w' = .ok vs.toArray w'

theorem xsem_sl {P : Program} {k : SK} {N : Nat} {cs : List AV} {es : Nat} (h : cs.length = N * es) : XSem P (.sl k N cs) es [] N cs := by
  intro m ro H w v hi hv _
  simp only [VRel] at hv
  rcases hv with ⟨_, rfl, rfl, rfl⟩ | ⟨_, ⟨cb, off, sp⟩, cap, rfl, _, _, ⟨rfl, rfl⟩ | ⟨hsp, hc⟩⟩
  · exact ⟨[], by simp [VsRel], by simp, fun w' _ => ⟨rfl, by simp [Builtin.firstCells]⟩⟩
  · exact ⟨[], by simp [VsRel], by simp, fun w' _ => ⟨rfl, by simp [Builtin.firstCells, loadCells, loadCellsFrom]⟩⟩
  · simp only at hsp hc
    subst hsp
    obtain ⟨vs, h1, h2, h3⟩ := hc.values
    refine ⟨vs, h1, h2, fun w' hw => ⟨rfl, ?_⟩⟩
    have hl : vs.length = N * es := by rw [← h1.length]; exact h
    exact run_firstCells_some (P := P) w' es N ⟨cb, off, none⟩ N cap vs hl (fun j v hj => by rw [addr_add, cell?_of_heap (w := w) (by rw [hw])]; exact h3 j v hj)

theorem xsem_hs {P : Program} {b g o N es : Nat} {blk : Blk} {cs : List AV} (hb : blk.rd = some (g, cs)) (h : o + N * es ≤ cs.length) :
    XSem P (.hs b g o N es) es [(b, blk)] N ((cs.drop o).take (N * es)) := by
  intro m ro H w v hi hv hn
  simp only [VRel] at hv
  obtain ⟨loc, hm, hh⟩ := hv
  have hb' := hn (b, blk) (by simp)
  cases loc with
  | void =>
    simp only [HsRel] at hh
    obtain ⟨rfl, rfl, rfl⟩ := hh
    exact ⟨[], by simp [VsRel], by simp, fun w' _ => ⟨rfl, by simp [Builtin.firstCells]⟩⟩
  | «at» cb base =>
    simp only [HsRel] at hh
    obtain ⟨cap, rfl, _⟩ := hh
    obtain ⟨vs, h1, h2, h3⟩ := hi.cellsAt hb' hb hm o (N * es)
    refine ⟨vs, h1, h2, fun w' hw => ⟨rfl, ?_⟩⟩
    have hl : vs.length = N * es := by rw [← h1.length]; simp; omega
    exact run_firstCells_some (P := P) w' es N ⟨cb, base + o, none⟩ N cap vs hl (fun j v hj => by rw [addr_add, cell?_of_heap (w := w) (by rw [hw])]; exact h3 j v hj)

/-- The cells of a text's bytes. -/
def bytesA (s : List UInt8) : List AV := s.map fun c => .int .u8 c.toNat

theorem xsem_str {P : Program} {s : List UInt8} : XSem P (.str s) 1 [] s.length (bytesA s) := by
  intro m ro H w v hi hv _
  simp only [VRel] at hv
  subst hv
  refine ⟨s.map fun c => .int .u8 c.toNat, ?_, by simp [Value.oneCell'], fun w' _ => ⟨by simp [Builtin.lenOf, ba_size], ?_⟩⟩
  · refine VsRel.of_get (by simp [bytesA]) fun i a v ha hv => ?_
    simp only [bytesA, List.getElem?_map, Option.map_eq_some_iff] at ha hv
    obtain ⟨c, hc, rfl⟩ := ha
    obtain ⟨c', hc', rfl⟩ := hv
    rw [hc] at hc'
    cases hc'
    exact vrel_int
  · simp [Builtin.firstCells]

theorem run_append_in {P : Program} {w : World} {t xt e : TypeId} {i : TypeInfo} (ht : P.underlying t = some (.slice e)) (hi : P.info? e = some i) (hx : tyNoInt P xt = true) (ty : TypeId)
    {cb off n cap k : Nat} {c : Array Value} {t' : TypeId} (hc : w.heap[cb]? = some (.cells c t' (0, 0))) {x : Value} {vs : List Value}
    (hl : (Builtin.lenOf x).run P w = .ok k w) (hf : (Builtin.firstCells i.size k x).run P w = .ok vs.toArray w) (h1 : ∀ v ∈ vs, v.oneCell' = true) (hroom : n + k ≤ cap) (hfit : off + n * i.size + vs.length ≤ c.size) :
    (Builtin.append_ #[t, xt] ty #[.slice (some ⟨cb, off, none⟩) n cap, x]).run P w =
      .ok (.slice (some ⟨cb, off, none⟩) (n + k) cap) (w.setRow cb (c.toList.take (off + n * i.size) ++ vs ++ c.toList.drop (off + n * i.size + vs.length)).toArray) := by
  have hst := run_storeCells_at P cb (off + n * i.size) t' vs 0 c w hc (by omega) h1
  simp only [Nat.add_zero] at hst
  rcases tyNoInt_some hx with ⟨e', hd⟩ | hd
  · simp [Builtin.append_, run_underlying ht, Go.sizeOf, typeInfo, hi, run_underlying hd, hl, hroom, hf, addr_add, hst]
  · simp [Builtin.append_, run_underlying ht, Go.sizeOf, typeInfo, hi, run_underlying hd, hl, hroom, hf, addr_add, hst]

theorem run_append_out {P : Program} {w : World} {t xt e : TypeId} {i : TypeInfo} {z : Value} (ht : P.underlying t = some (.slice e)) (hi : P.info? e = some i) (hz : i.zero = some z) (hx : tyNoInt P xt = true) (ty : TypeId)
    {s x : Value} {base : Option Addr} {n cap k : Nat} (hs : s = .slice base n cap) {olds vs : List Value}
    (hl : (Builtin.lenOf x).run P w = .ok k w) (ho : (Builtin.firstCells i.size n s).run P w.drew = .ok olds.toArray w.drew) (hf : (Builtin.firstCells i.size k x).run P w.drew = .ok vs.toArray w.drew)
    (hroom : cap < n + k) (h63 : n + k ≤ 9223372036854775807) (hbytes : (n + k) * i.bytes ≤ 140737488355328) :
    ∃ newCap, n + k ≤ newCap ∧ (Builtin.append_ #[t, xt] ty #[s, x]).run P w =
      .ok (.slice (some ⟨w.heap.size, 0, none⟩) (n + k) newCap) (w.drew.alloc (.cells (olds.toArray ++ vs.toArray ++ Builtin.zeroCells z.cells (newCap - (n + k))) e)) := by
  subst hs
  have n1 : ¬ n + k ≤ cap := by omega
  have n2 : ¬ (9223372036854775807 < ((n : Int) + (k : Int))) := by omega
  have n3 : ¬ (281474976710656 < Builtin.nextslicecap (n + k) cap * i.bytes) := by have := growslice_fits hroom hbytes; omega
  refine ⟨grownCap w (n + k) cap e, grownCap_ge w _ _ _, ?_⟩
  have ho' : (Builtin.firstCells i.size n (.slice base n cap)).run P { w with drawn := w.drawn + 1 } = .ok olds.toArray { w with drawn := w.drawn + 1 } := ho
  have hf' : (Builtin.firstCells i.size k x).run P { w with drawn := w.drawn + 1 } = .ok vs.toArray { w with drawn := w.drawn + 1 } := hf
  rcases tyNoInt_some hx with ⟨e', hd⟩ | hd
  · simp [Builtin.append_, run_underlying ht, Go.sizeOf, typeInfo, zeroValue, hi, hz, run_underlying hd, hl, n1, n2, n3, Question.forced, ho, hf, newRow, grownCap]
    congr 2
    apply Array.ext'
    simp [List.append_assoc]
  · simp [Builtin.append_, run_underlying ht, Go.sizeOf, typeInfo, zeroValue, hi, hz, run_underlying hd, hl, n1, n2, n3, Question.forced, ho, hf, newRow, grownCap]
    congr 2
    apply Array.ext'
    simp [List.append_assoc]

theorem run_append_none {P : Program} {w : World} {t xt e : TypeId} {i : TypeInfo} (ht : P.underlying t = some (.slice e)) (hi : P.info? e = some i) (hx : tyNoInt P xt = true) (ty : TypeId) {x : Value} {vs : List Value}
    (hl : (Builtin.lenOf x).run P w = .ok 0 w) (hf : (Builtin.firstCells i.size 0 x).run P w = .ok vs.toArray w) :
    (Builtin.append_ #[t, xt] ty #[.slice none 0 0, x]).run P w = .ok (.slice none 0 0) w := by
  rcases tyNoInt_some hx with ⟨e', hd⟩ | hd
  · simp [Builtin.append_, run_underlying ht, Go.sizeOf, typeInfo, hi, run_underlying hd, hl, hf]
  · simp [Builtin.append_, run_underlying ht, Go.sizeOf, typeInfo, hi, run_underlying hd, hl, hf]

theorem over_tail (cs xs : List AV) (o k : Nat) (h : o + k ≤ cs.length) : ((over cs (o + k) xs).drop o).take (k + xs.length) = (cs.drop o).take k ++ xs := by
  unfold over
  rw [List.append_assoc, List.drop_append_of_le_length (by simp; omega), List.drop_take, show o + k - o = k by omega, ← List.append_assoc]
  rw [List.take_append_of_le_length (by simp; omega)]
  rw [List.take_of_length_le (by simp; omega)]

/-- What append makes of an abstract heap: a new row in the place of block b (its next generation). -/
theorem Inv.rowAt {m ro H w} (hi : Inv m ro H w) {b : Nat} {x' : Blk} {g' : Nat} {cs' : List AV} (hx' : x' = .cells g' cs') (hg : ∀ g₁ l, m b g₁ = some l → g₁ < g')
    {H' : Hp} (hH' : ∀ b₁, H' b₁ = if b₁ = b then some x' else H b₁) {c : Array Value} {t : TypeId} {vs : List Value} (hv : VsRel m ro w cs' vs) (ho : ∀ v ∈ vs, v.oneCell' = true) (hc : ∀ (j : Nat) (v : Value), vs[j]? = some v → c[j]? = some v) :
    let m' : Mp := fun b₁ g₁ => if b₁ = b ∧ g₁ = g' then some (.at w.heap.size 0) else m b₁ g₁
    Inv m' ro H' (w.drew.alloc (.cells c t)) ∧ Step m ro H w m' ro H' (w.drew.alloc (.cells c t)) := by
  intro m'
  subst hx'
  have hsz : w.drew.heap.size = w.heap.size := rfl
  have hheap := alloc_heap w.drew (.cells c t)
  rw [hsz] at hheap
  refine hi.change (m' := m') b (.cells g' cs') g' w.heap.size 0 rfl (fun _ _ => rfl) hH' (fun g l h => Nat.le_of_lt (hg g l h)) (fun l h => absurd (hg g' l h) (Nat.lt_irrefl _)) (.inl (Nat.le_refl _))
    (by simp) (by simp) rfl rfl rfl (fun k hk _ => alloc_old w.drew _ hk) (fun c t fr h => ?_) (fun keep => ?_)
  · have : w.heap[w.heap.size]? = none := Array.getElem?_eq_none (Nat.le_refl _)
    rw [this] at h
    simp at h
  · intro loc h
    simp only [m', true_and, and_self, if_true, Option.some.injEq] at h
    subst h
    refine ⟨c, t, hheap, fun i a hia => ?_⟩
    obtain ⟨v, h1, h2⟩ := hv.get hia
    exact ⟨v, by simpa using hc i v h1, ho v (List.mem_of_getElem? h1), keep a v h2⟩

theorem append_get {olds vs : List Value} {r : Array Value} (j : Nat) (v : Value) (h : (olds ++ vs)[j]? = some v) : (olds.toArray ++ vs.toArray ++ r)[j]? = some v := by
  have h1 : ((olds.toArray ++ vs.toArray ++ r).toList)[j]? = some v := by
    simp only [Array.toList_append]
    rw [List.getElem?_append_left (by have := (List.getElem?_eq_some_iff.1 h).1; simpa using this)]
    exact h
  rwa [Array.getElem?_toList] at h1

theorem exec_append {P : Program} {o : Oper} {a : Act} {c : Call} {w : World} {x y : Operand} {t xt : TypeId} (ho : o.op = .call c) (hc : c.callee = .builtin .append) (ha : c.args = #[x, y]) (ht : c.argTypes = #[t, xt]) {v : Value} {w' : World}
    (hr : (Builtin.append_ #[t, xt] o.type #[a.eval x, a.eval y]).run P w = .ok v w') : (execOp a.eval o).run P w = .ok (.value v) w' := by
  simp [execOp, ho, resolve, hc, ha, ht, invoke, builtin, hr]

theorem sem_append_hs {P : Program} {o : Oper} {ρ n} {c : Call} {x y : Operand} {t xt e : TypeId} {z by' b g i N es cs k xs nd} (ho : o.op = .call c) (hc : c.callee = .builtin .append) (ha : c.args = #[x, y]) (ht : c.argTypes = #[t, xt])
    (he : tyElem P t = some e) (hz : tyE P e = some (z, by')) (hno : tyNoInt P xt = true) (h1 : ρ x = .hs b g i N es) (hes : z.length = es)
    (hfit : i + N * es ≤ cs.length) (hx : XSem P (ρ y) es nd k xs) (hxl : xs.length = k * es) (h63 : N + k ≤ 9223372036854775807) (hbytes : (N + k) * by' ≤ 140737488355328) :
    OpSem P o ρ n { v := .hs b (g + 1) 0 (N + k) es, need := (b, .cells g cs) :: nd, upd := some (b, .cells (g + 1) ((cs.drop i).take (N * es) ++ xs)) } := by
  obtain ⟨ie, zv, hinfo, hzero, ⟨hzs, hone⟩, rfl, hby, hlen⟩ := tyE_some hz
  have hu := tyElem_some he
  rw [hes] at hlen
  subst hlen
  subst hby
  intro m ro H w a hi hr hn hf next Q kk
  have e1 := hr x (by simp [ho, Op.operands, Call.operands, hc, ha])
  have e2 := hr y (by simp [ho, Op.operands, Call.operands, hc, ha])
  rw [h1] at e1
  simp only [VRel] at e1
  obtain ⟨loc, hm, hh⟩ := e1
  have hb := hn (b, .cells g cs) (by simp)
  simp only at hb
  obtain ⟨vs, v1, v2, v3⟩ := hx m ro H w (a.eval y) hi e2 (fun p hp => hn p (by simp [hp]))
  have hvl : vs.length = k * ie.size := by rw [← v1.length]; exact hxl
  have hgen : ∀ g₁ l, m b g₁ = some l → g₁ < g + 1 := fun g₁ l h => Nat.lt_succ_of_le (hi.gen b _ g hb rfl g₁ l h)
  have hmne : ∀ (m' : Mp) (l : Loc), (m' = fun b₁ g₁ => if b₁ = b ∧ g₁ = g + 1 then some l else m b₁ g₁) → ∀ b' g₁, m' b' g₁ ≠ m b' g₁ →
      (∃ y, (some (b, Blk.cells (g + 1) ((cs.drop i).take (N * ie.size) ++ xs)) : Option (Nat × Blk)) = some (b', y)) ∨ (b' = n ∧ (none : Option Blk).isSome) := by
    intro m' l e b' g₁ hne
    subst e
    by_cases hcc : b' = b ∧ g₁ = g + 1
    · exact .inl ⟨_, by rw [hcc.1]⟩
    · simp [hcc] at hne
  obtain ⟨vold, w1, w2, w3⟩ : ∃ vold : List Value, VsRel m ro w ((cs.drop i).take (N * ie.size)) vold ∧ (∀ v ∈ vold, v.oneCell' = true) ∧ (∀ w' : World, w'.heap = w.heap → (Builtin.firstCells ie.size N (a.eval x)).run P w' = .ok vold.toArray w') := by
    cases loc with
    | void =>
      simp only [HsRel] at hh
      obtain ⟨hv, rfl, rfl⟩ := hh
      exact ⟨[], by simp [VsRel], by simp, fun w' _ => by rw [hv]; simp [Builtin.firstCells]⟩
    | «at» cb base =>
      simp only [HsRel] at hh
      obtain ⟨cap, hv, _⟩ := hh
      obtain ⟨vs, h1, h2, h3⟩ := hi.cellsAt hb rfl hm i (N * ie.size)
      refine ⟨vs, h1, h2, fun w' hw => ?_⟩
      have hl : vs.length = N * ie.size := by rw [← h1.length]; simp; omega
      rw [hv]
      exact run_firstCells_some (P := P) w' ie.size N ⟨cb, base + i, none⟩ N cap vs hl (fun j v hj => by rw [addr_add, cell?_of_heap (w := w) (by rw [hw])]; exact h3 j v hj)
  have growth : ∀ (base : Option Addr) (cap : Nat), a.eval x = .slice base N cap → cap < N + k → o.wp P a w next Q := by
    intro base cap hv hroom
    obtain ⟨newCap, hcap, hrun⟩ := run_append_out (P := P) hu hinfo hzero hno o.type hv (v3 w rfl).1 (w3 w.drew rfl) (v3 w.drew rfl).2 hroom h63 hbytes
    have hex := exec_append ho hc ha ht hrun
    obtain ⟨k1, k2⟩ := hi.rowAt (b := b) (g' := g + 1) rfl hgen (H' := app H n { v := .hs b (g + 1) 0 (N + k) ie.size, need := (b, .cells g cs) :: nd, upd := some (b, .cells (g + 1) ((cs.drop i).take (N * ie.size) ++ xs)) })
      (fun b₁ => by simp only [app]) (w1.append v1) (by simp only [List.mem_append]; rintro v (h | h); exact w2 v h; exact v2 v h) (c := vold.toArray ++ vs.toArray ++ Builtin.zeroCells zv.cells (newCap - (N + k))) (t := e) (fun j v hj => append_get j v hj)
    unfold Oper.wp
    rw [hex]
    refine kk _ _ _ _ ?_ k1 k2 (hmne _ _ rfl)
    simp only [VRel]
    refine ⟨.at w.heap.size 0, by simp, newCap, by simp, hcap, _, e, (0, 0), alloc_heap w.drew _, ?_⟩
    have hvo : vold.length = N * ie.size := by rw [← w1.length]; simp; omega
    simp only [Array.size_append, List.size_toArray, hvo, hvl, size_zeroCells, hzs, Nat.zero_add, ← Nat.add_mul]
    exact Nat.mul_le_mul_right _ (by omega)
  cases loc with
  | void =>
    simp only [HsRel] at hh
    obtain ⟨hv, rfl, rfl⟩ := hh
    rcases Nat.eq_zero_or_pos k with rfl | hk
    · have hrun := run_append_none (P := P) hu hinfo hno o.type (v3 w rfl).1 (v3 w rfl).2
      rw [← hv] at hrun
      have hex := exec_append ho hc ha ht hrun
      have hxs : xs = [] := List.eq_nil_of_length_eq_zero (by simpa using hxl)
      obtain ⟨k1, k2⟩ := hi.change₀ (ro' := ro) (m' := fun b₁ g₁ => if b₁ = b ∧ g₁ = g + 1 then some .void else m b₁ g₁) (H' := app H n { v := .hs b (g + 1) 0 (0 + 0) ie.size, need := (b, .cells g cs) :: nd, upd := some (b, .cells (g + 1) ((cs.drop 0).take (0 * ie.size) ++ xs)) })
        b (.cells (g + 1) ((cs.drop 0).take (0 * ie.size) ++ xs))
        (fun b₁ g₁ l h => by
          by_cases hcc : b₁ = b ∧ g₁ = g + 1
          · obtain ⟨rfl, rfl⟩ := hcc; exact absurd (hgen _ _ h) (Nat.lt_irrefl _)
          · simp only [hcc, if_false]; exact h)
        (fun b₁ g₁ => by
          by_cases hcc : b₁ = b ∧ g₁ = g + 1
          · exact .inr ⟨hcc.1, by rw [hcc.2]; rfl, by simp [hcc]⟩
          · exact .inl (by simp [hcc]))
        (fun b₁ => by simp only [app])
        (fun g₁ cb base h => by simp only [Blk.own, Option.some.injEq] at h; subst h; simp)
        (fun g₁ h g₂ l h2 => by
          simp only [Blk.own, Option.some.injEq] at h
          subst h
          by_cases hcc : g₂ = g + 1
          · omega
          · simp only [hcc, and_false, if_false] at h2; exact Nat.le_of_lt (hgen _ _ h2))
        (fun _ h => h) (fun _ h => .inl h)
        (fun _ loc h => by
          simp only [true_and, and_self, if_true, Option.some.injEq] at h
          subst h
          show List.take (0 * ie.size) (List.drop 0 cs) ++ xs = []
          rw [hxs, Nat.zero_mul]
          rfl)
      unfold Oper.wp
      rw [hex]
      refine kk _ _ _ _ ?_ k1 k2 (hmne _ _ rfl)
      simp only [VRel]
      exact ⟨.void, by simp, by simp [HsRel, hv]⟩
    · exact growth none 0 hv (by omega)
  | «at» cb base =>
    simp only [HsRel] at hh
    obtain ⟨cap, hv, hle, cc, t', fr, hcc, hsz⟩ := hh
    obtain ⟨c0, t0, hc0, hlay⟩ := hi.blk b _ hb _ hm
    rw [hc0] at hcc
    simp only [Option.some.injEq, Obj.cells.injEq] at hcc
    obtain ⟨rfl, rfl, rfl⟩ := hcc
    by_cases hroom : N + k ≤ cap
    · have hmul : (N + k) * ie.size ≤ cap * ie.size := Nat.mul_le_mul_right _ hroom
      rw [Nat.add_mul] at hmul
      have hrun := run_append_in (P := P) hu hinfo hno o.type hc0 (v3 w rfl).1 (v3 w rfl).2 v2 hroom (by omega : base + i + N * ie.size + vs.length ≤ c0.size)
      rw [← hv] at hrun
      have hex := exec_append ho hc ha ht hrun
      have hl1 := over_lay hlay (i + N * ie.size) v1 v2 (by omega) (by omega)
      have hl2 := (hl1.drop i).take (N * ie.size + xs.length)
      rw [over_tail cs xs i (N * ie.size) (by omega)] at hl2
      rw [← Nat.add_assoc base i] at hl2
      obtain ⟨k1, k2⟩ := hi.write (n := n) hb hm hc0 (c0.toList.take (base + i + N * ie.size) ++ vs ++ c0.toList.drop (base + i + N * ie.size + vs.length)).toArray
        (by simp only [List.size_toArray, List.length_append, List.length_take, List.length_drop, Array.length_toList]; omega) (g + 1) (base + i) (Nat.le_succ _) (fun h => absurd h (by omega)) ((cs.drop i).take (N * ie.size) ++ xs) (v := .hs b (g + 1) 0 (N + k) ie.size) (nd := (b, .cells g cs) :: nd) hl2
      unfold Oper.wp
      rw [hex]
      refine kk _ _ _ _ ?_ k1 k2 (hmne _ _ rfl)
      simp only [VRel]
      refine ⟨.at cb (base + i), by simp, cap, by simp, hroom, _, t0, (0, 0), setRow_heap w cb c0 _ t0 (0, 0) hc0, ?_⟩
      simp only [List.size_toArray, List.length_append, List.length_take, List.length_drop, Array.length_toList]
      omega
    · exact growth _ cap hv (by omega)

end Tab
