/- Lemmas for this claim: part 13. No condition. -/
import Derived.Test.YtiflemdfnjgobaaDoorZ6
import Derived.ProofKit
import Derived.Carry
import Derived.SizedLaws
import Derived.Handed
import Derived.LaidMore
import Derived.LaidOnce
import Derived.Lay
set_option linter.unusedVariables false
set_option linter.unusedSimpArgs false
set_option linter.unusedSectionVars false
/- From a statement's start to the abstract machine, and back: the arguments opened, the row shut. -/
namespace Tab
open Go Go.ChangeShapes Go.WideShapes Go.RowKit
variable [Globs]

structure Opens (P : Program) (t : TypeId) (X : Type) (enc : X → List AV) (ok : X → Prop) : Prop where
  shut : ∀ x, closeds (enc x)
  opened : ∀ (H : Type) (e : TypeId × Value → H) (w : World) (fuel : Nat) (cs : List Value) (d : DataW H) (ps : List MemPlace),
    DataW.trod e P w 0 (fun _ => true) true fuel t cs = some (d, ps) → (∀ n ∈ d.weights P t, n ≤ reachBytes) →
    ∃ x, ok x ∧ cs.length = P.cellsOf t ∧ (∀ v ∈ cs, v.oneCell' = true) ∧ VsRel m₀ (fun cb => cb < w.heap.size) w (enc x) cs

theorem list_of {X : Type} {Q : Nat → X → Prop} : ∀ (n : Nat), (∀ i, i < n → ∃ x, Q i x) → ∃ xs : List X, xs.length = n ∧ ∀ i x, xs[i]? = some x → Q i x
  | 0, _ => ⟨[], rfl, fun i x h => by simp at h⟩
  | n + 1, h => by
    obtain ⟨xs, hl, hx⟩ := list_of n (fun i hi => h i (by omega))
    obtain ⟨y, hy⟩ := h n (by omega)
    refine ⟨xs ++ [y], by simp [hl], fun i x hi => ?_⟩
    by_cases h1 : i < n
    · rw [List.getElem?_append_left (by omega)] at hi; exact hx i x hi
    · rw [List.getElem?_append_right (by omega)] at hi
      have : i - xs.length = 0 := by
        have := (List.getElem?_eq_some_iff.1 hi).1
        simp at this; omega
      rw [this] at hi; simp at hi; subst hi
      have : i = n := by omega
      subst this; exact hy

theorem Opens.bool {P : Program} {t : TypeId} (ht : P.underlying t = some .bool) (hc : P.cellsOf t = 1) : Opens P t Bool (fun b => [.bool b]) (fun _ => True) where
  shut := fun x => by simp [closeds, AV.closed]
  opened := fun H e w fuel cs d ps h hw => by
    obtain ⟨b, rfl, _⟩ := DataW.trod_bool ht h
    exact ⟨b, trivial, by simp [hc], by simp [Value.oneCell'], by simp [VsRel, VRel]⟩

theorem Opens.int {P : Program} {t : TypeId} {k : IntKind} (ht : P.underlying t = some (.int k)) (hc : P.cellsOf t = 1) : Opens P t Int (fun n => [.int k n]) (fun n => (Lit.int k n).wf = true) where
  shut := fun x => by simp [closeds, AV.closed]
  opened := fun H e w fuel cs d ps h hw => by
    obtain ⟨n, rfl, _, hn⟩ := DataW.trod_int ht h
    exact ⟨n, hn, by simp [hc], by simp [Value.oneCell'], by simp [VsRel, VRel]⟩

theorem Opens.str {P : Program} {t : TypeId} (ht : P.underlying t = some .string) (hc : P.cellsOf t = 1) : Opens P t (List UInt8) (fun s => [.str s]) (fun s => s.length ≤ reachBytes) where
  shut := fun x => by simp [closeds, AV.closed]
  opened := fun H e w fuel cs d ps h hw => by
    obtain ⟨s, rfl, hx, hn⟩ := DataW.trod_string ht h
    simp only [Prod.mk.injEq] at hx
    obtain ⟨rfl, rfl⟩ := hx
    refine ⟨s.data.toList, hw _ (by simp [DataW.weights]), by simp [hc], by simp [Value.oneCell'], ?_⟩
    simp only [VsRel, VRel, List.cons.injEq]
    exact ⟨_, _, ⟨rfl, rfl⟩, rfl, rfl⟩

theorem cs_flat {m : Mp} {ro : Nat → Prop} {w : World} {X : Type} {enc : X → List AV} {k cb : Nat} (hlen : ∀ x, (enc x).length = k) :
    ∀ (xs : List X) (off : Nat), (∀ i x, xs[i]? = some x → CsRel m ro w (enc x) cb (off + i * k)) → CsRel m ro w (xs.flatMap enc) cb off
  | [], off, _ => by simp [CsRel]
  | x :: xs, off, h => by
    have h0 := h 0 x rfl
    have h1 := cs_flat hlen xs (off + k) (fun i y hi => by
      have := h (i + 1) y (by simpa using hi)
      rw [show off + k + i * k = off + (i + 1) * k by rw [Nat.add_mul]; omega]; exact this)
    rw [List.flatMap_cons, CsRel_iff]
    rw [CsRel_iff] at h0 h1
    intro i a hi
    by_cases hk : i < k
    · rw [List.getElem?_append_left (by rw [hlen]; exact hk)] at hi
      simpa using h0 i a hi
    · rw [List.getElem?_append_right (by rw [hlen]; omega), hlen] at hi
      have := h1 (i - k) a hi
      rw [show off + k + (i - k) = off + i by omega] at this; exact this

theorem weightsAll_mem {H : Type} {P : Program} {e : TypeId} {n : Nat} : ∀ {ds : List (DataW H)} {d : DataW H}, d ∈ ds → n ∈ d.weights P e → n ∈ DataW.weightsAll P e ds
  | d0 :: ds, d, hd, hn => by
    simp only [DataW.weightsAll, List.mem_append]
    rcases List.mem_cons.1 hd with rfl | hd
    · exact .inl hn
    · exact .inr (weightsAll_mem hd hn)

theorem cell?_spot {w : World} {a : Addr} {v : Value} (h : w.cell? a = some v) : a.spot = none ∧ a.block < w.heap.size := by
  obtain ⟨b, off, sp⟩ := a
  simp only [World.cell?] at h
  split at h
  · rename_i hh
    cases sp with
    | some _ => simp at h
    | none => exact ⟨rfl, (Array.getElem?_eq_some_iff.1 hh).1⟩
  · simp at h

theorem Opens.slice {P : Program} {t e : TypeId} {X : Type} {enc : X → List AV} {ok : X → Prop} (ht : P.underlying t = some (.slice e)) (hc : P.cellsOf t = 1) (hlen : ∀ x, (enc x).length = P.cellsOf e) (hpos : 0 < P.cellsOf e)
    (O : Opens P e X enc ok) : Opens P t (SK × List X) (fun x => [.sl x.1 x.2.length (x.2.flatMap enc)])
      (fun x => ((x.1 = .nil ∧ x.2 = []) ∨ x.1 = .nn) ∧ (∀ y ∈ x.2, ok y) ∧ x.2.length * P.bytesOf e ≤ reachBytes) where
  shut := fun x => by
    simp only [closeds, AV.closed, and_true]
    rw [closeds_iff]
    intro a ha
    obtain ⟨y, _, hy⟩ := List.mem_flatMap.1 ha
    exact closeds_iff.1 (O.shut y) a hy
  opened := fun H en w fuel cs d ps h hw => by
    rcases DataW.trod_slice ht h with ⟨rfl, _⟩ | ⟨a, len, cap, elems, rest, n, _, rfl, hx, _, hle, hmx, hel, hget, _, _⟩
    · exact ⟨(.nil, []), ⟨.inl ⟨rfl, rfl⟩, by simp, by simp⟩, by simp [hc], by simp [Value.oneCell'], by simp [VsRel, VRel]⟩
    · simp only [Prod.mk.injEq] at hx
      obtain ⟨rfl, rfl⟩ := hx
      have key : ∀ i, i < len → ∃ x, ok x ∧ a.spot = none ∧ CsRel m₀ (fun cb => cb < w.heap.size) w (enc x) a.block (a.off + i * P.cellsOf e) := by
        intro i hi
        have hg := hget i hi
        rw [List.getElem?_eq_getElem (by omega)] at hg
        obtain ⟨cs, hcs, htr⟩ := Option.bind_eq_some_iff.1 hg
        obtain ⟨_, hl, hcell⟩ := World.cells?_some hcs
        obtain ⟨x, hok, hl', hone, hrel⟩ := O.opened H en w n cs elems[i].1 elems[i].2 htr (fun n hn => hw n (by
          simp only [DataW.weights, ht, List.mem_cons, List.mem_append]
          exact .inr (.inl (weightsAll_mem (List.mem_map.2 ⟨elems[i], List.getElem_mem _, rfl⟩) hn))))
        have hspot : (a.add (i * P.cellsOf e)).spot = none := by
          have := hcell 0 hpos
          rw [List.getElem?_eq_getElem (by omega)] at this
          simpa [Addr.add] using (cell?_spot this).1
        have hcell' : ∀ j, j < P.cellsOf e → w.cell? ⟨a.block, a.off + i * P.cellsOf e + j, none⟩ = cs[j]? := by
          intro j hj
          rw [← hcell j hj]
          congr 1
          have : a.add (i * P.cellsOf e) = ⟨a.block, a.off + i * P.cellsOf e, none⟩ := by
            have h1 := hspot
            unfold Addr.add at h1 ⊢
            split
            · rename_i h0
              rw [if_pos h0] at h1
              rw [h0]; cases a; simp_all
            · rfl
          rw [this]
          unfold Addr.add
          split <;> simp_all
        refine ⟨x, hok, ?_, ?_⟩
        · have := hcell 0 hpos
          have hs0 := hget 0 (by omega)
          rw [List.getElem?_eq_getElem (by omega)] at hs0
          obtain ⟨cs0, hcs0, _⟩ := Option.bind_eq_some_iff.1 hs0
          obtain ⟨_, hl0, hcell0⟩ := World.cells?_some hcs0
          have := hcell0 0 hpos
          rw [List.getElem?_eq_getElem (by omega)] at this
          simpa [Addr.add] using (cell?_spot this).1
        · rw [CsRel_iff]
          intro j av hj
          have hjl : j < P.cellsOf e := by
            have := (List.getElem?_eq_some_iff.1 hj).1; rw [hlen] at this; exact this
          obtain ⟨v, hv, hr⟩ := hrel.get hj
          have hc' := hcell' j hjl
          rw [hv] at hc'
          exact ⟨(cell?_spot hc').2, v, hc', hone v (List.mem_of_getElem? hv), hr⟩
      obtain ⟨xs, hxl, hxs⟩ := list_of (Q := fun i x => ok x ∧ a.spot = none ∧ CsRel m₀ (fun cb => cb < w.heap.size) w (enc x) a.block (a.off + i * P.cellsOf e)) len key
      refine ⟨(.nn, xs), ⟨.inr rfl, ?_, ?_⟩, by simp [hc], by simp [Value.oneCell'], ?_⟩
      · intro y hy
        obtain ⟨i, hi⟩ := List.getElem?_of_mem hy
        exact (hxs i y hi).1
      · have := hw ((elems.length + rest.length) * P.bytesOf e) (by simp [DataW.weights, ht])
        show xs.length * _ ≤ _
        rw [hxl, ← hel]
        exact Nat.le_trans (Nat.mul_le_mul_right _ (Nat.le_add_right _ _)) this
      · simp only [VsRel, VRel]
        refine ⟨_, _, rfl, .inr ⟨by simp, a, cap, by rw [hxl], by omega, by simp, ?_⟩, rfl⟩
        rcases Nat.eq_zero_or_pos len with h0 | h0
        · left
          have : xs = [] := List.length_eq_zero_iff.1 (by omega)
          subst this; simp
        · right
          have h00 := hxs 0 xs[0] (List.getElem?_eq_getElem (by omega))
          exact ⟨h00.2.1, cs_flat hlen xs a.off (fun i x hi => (hxs i x hi).2.2)⟩


def OpensFs (P : Program) (fs : List Field) (k tot : Nat) (X : Type) (enc : X → List AV) (ok : X → Prop) : Prop :=
  (∀ x, closeds (enc x)) ∧
  ∀ (H : Type) (e : TypeId × Value → H) (w : World) (n : Nat) (cs : List Value) (xs : List (DataW H × List MemPlace)), xs.length = fs.length →
    (∀ (i : Nat) (f : Field), fs[i]? = some f → DataW.trod e P w 0 (fun _ => true) true n f.type ((cs.drop f.offset).take (P.cellsOf f.type)) = xs[i]?) →
    (∀ n ∈ DataW.weightsEach P (fs.map (·.type)) (xs.map (·.1)), n ≤ reachBytes) → cs.length = k + tot →
    ∃ x, ok x ∧ (∀ v ∈ cs.drop k, v.oneCell' = true) ∧ VsRel m₀ (fun cb => cb < w.heap.size) w (enc x) (cs.drop k)

theorem OpensFs.nil {P : Program} {k : Nat} : OpensFs P [] k 0 Unit (fun _ => []) (fun _ => True) := by
  refine ⟨fun _ => by simp [closeds], fun H e w n cs xs _ _ _ hl => ⟨(), trivial, ?_, ?_⟩⟩
  · rw [List.drop_of_length_le (by omega)]; simp
  · rw [List.drop_of_length_le (by omega)]; simp [VsRel]

theorem OpensFs.cons {P : Program} {f : Field} {fs : List Field} {k c tot : Nat} {X Y : Type} {enc : X → List AV} {ok : X → Prop} {enc' : Y → List AV} {ok' : Y → Prop}
    (hoff : f.offset = k) (hc : P.cellsOf f.type = c) (O : Opens P f.type X enc ok) (Os : OpensFs P fs (k + c) tot Y enc' ok') :
    OpensFs P (f :: fs) k (c + tot) (X × Y) (fun x => enc x.1 ++ enc' x.2) (fun x => ok x.1 ∧ ok' x.2) := by
  refine ⟨fun x => ?_, fun H e w n cs xs hl hf hw hlen => ?_⟩
  · rw [closeds_iff]
    intro a ha
    rcases List.mem_append.1 ha with h | h
    · exact closeds_iff.1 (O.shut _) a h
    · exact closeds_iff.1 (Os.1 _) a h
  · match xs, hl with
    | x :: xs, hl =>
      have h0 := hf 0 f rfl
      simp only [List.getElem?_cons_zero] at h0
      obtain ⟨a, ha, hal, hao, har⟩ := O.opened H e w n _ x.1 x.2 h0 (fun m hm => hw m (by simp [DataW.weightsEach, hm]))
      obtain ⟨b, hb, hbo, hbr⟩ := Os.2 H e w n cs xs (by simpa using hl) (fun i g hi => by simpa using hf (i + 1) g (by simpa using hi))
        (fun m hm => hw m (by simp [DataW.weightsEach, hm])) (by omega)
      have hsplit : cs.drop k = (cs.drop f.offset).take (P.cellsOf f.type) ++ cs.drop (k + c) := by
        rw [hoff, hc, ← List.drop_drop, List.take_append_drop]
      refine ⟨(a, b), ⟨ha, hb⟩, ?_, ?_⟩
      · rw [hsplit]
        intro v hv
        rcases List.mem_append.1 hv with h | h
        · exact hao v h
        · exact hbo v h
      · rw [hsplit]
        exact har.append hbr

theorem Opens.struct {P : Program} {t : TypeId} {fs : Array Field} {tot : Nat} {X : Type} {enc : X → List AV} {ok : X → Prop} (ht : P.underlying t = some (.struct fs)) (hc : P.cellsOf t = tot)
    (O : OpensFs P fs.toList 0 tot X enc ok) : Opens P t X enc ok where
  shut := O.1
  opened := fun H e w fuel cs d ps h hw => by
    obtain ⟨xs, n, _, hx, hl, hlen, hf⟩ := DataW.trod_struct ht h
    simp only [Prod.mk.injEq] at hx
    obtain ⟨rfl, rfl⟩ := hx
    obtain ⟨x, hx, ho, hr⟩ := O.2 H e w n cs xs (by simpa using hlen) (fun i f hi => hf i f (by simpa using hi)) (by simpa [DataW.weights, ht] using hw) (by omega)
    exact ⟨x, hx, hl, by simpa using ho, by simpa using hr⟩


structure OpensArg (P : Program) (t : TypeId) (X : Type) (to : X → AV) (ok : X → Prop) : Prop where
  shut : ∀ x, (to x).closed
  opened : ∀ (H : Type) (e : TypeId × Value → H) (w : World) (b : Nat) (v : Value) (d : DataW H) (ps : List MemPlace),
    DataW.Trod e P w 0 (fun _ => true) true t v d ps → Value.okWide P w .any b t v → (∀ n ∈ d.weights P t, n ≤ reachBytes) →
    ∃ x, ok x ∧ VRel m₀ (fun cb => cb < w.heap.size) w (to x) v

theorem OpensArg.one {P : Program} {t : TypeId} {X : Type} {to : X → AV} {ok : X → Prop} (O : Opens P t X (fun x => [to x]) ok)
    (hn : ∀ (w : World) (b : Nat) (v : Value), Value.okWide P w .any b t v → v.cells = #[v]) : OpensArg P t X to ok where
  shut := fun x => by have := O.shut x; simpa [closeds] using this
  opened := fun H e w b v d ps h hv hw => by
    obtain ⟨fuel, hf⟩ := h
    obtain ⟨x, hx, _, _, hr⟩ := O.opened H e w fuel _ d ps hf hw
    rw [hn w b v hv] at hr
    simp only [VsRel, List.cons.injEq] at hr
    obtain ⟨v', _, ⟨rfl, rfl⟩, hr, _⟩ := hr
    exact ⟨x, hx, hr⟩

theorem OpensArg.int {P : Program} {t : TypeId} {k : IntKind} (ht : P.underlying t = some (.int k)) (hc : P.cellsOf t = 1) : OpensArg P t Int (fun n => .int k n) (fun n => (Lit.int k n).wf = true) :=
  .one (.int ht hc) fun w b v h => by obtain ⟨n, rfl⟩ := okWide_int ht h; rfl
theorem OpensArg.bool {P : Program} {t : TypeId} (ht : P.underlying t = some .bool) (hc : P.cellsOf t = 1) : OpensArg P t Bool (fun n => .bool n) (fun _ => True) :=
  .one (.bool ht hc) fun w b v h => by obtain ⟨n, rfl⟩ := okWide_bool ht h; rfl
theorem OpensArg.str {P : Program} {t : TypeId} (ht : P.underlying t = some .string) (hc : P.cellsOf t = 1) : OpensArg P t (List UInt8) (fun s => .str s) (fun s => s.length ≤ reachBytes) :=
  .one (.str ht hc) fun w b v h => by obtain ⟨n, rfl⟩ := okWide_string ht h; rfl
theorem OpensArg.slice {P : Program} {t e : TypeId} {X : Type} {enc : X → List AV} {ok : X → Prop} (ht : P.underlying t = some (.slice e)) (hc : P.cellsOf t = 1) (hlen : ∀ x, (enc x).length = P.cellsOf e) (hpos : 0 < P.cellsOf e)
    (O : Opens P e X enc ok) : OpensArg P t (SK × List X) (fun x => .sl x.1 x.2.length (x.2.flatMap enc))
      (fun x => ((x.1 = .nil ∧ x.2 = []) ∨ x.1 = .nn) ∧ (∀ y ∈ x.2, ok y) ∧ x.2.length * P.bytesOf e ≤ reachBytes) :=
  .one (.slice ht hc hlen hpos O) fun w b v h => by obtain ⟨a, l, c, rfl⟩ := okWide_slice ht h; rfl
theorem OpensArg.struct {P : Program} {t : TypeId} {fs : Array Field} {X : Type} {enc : X → List AV} {ok : X → Prop} (ht : P.underlying t = some (.struct fs))
    (O : Opens P t X enc ok) : OpensArg P t X (fun x => .agg (enc x)) ok where
  shut := fun x => by have := O.shut x; simpa [AV.closed] using this
  opened := fun H e w b v d ps h hv hw => by
    obtain ⟨cs, rfl, _⟩ := okWide_struct ht hv
    obtain ⟨fuel, hf⟩ := h
    obtain ⟨x, hx, _, ho, hr⟩ := O.opened H e w fuel _ d ps hf hw
    exact ⟨x, hx, by simp only [VRel]; exact ⟨cs, rfl, ho, hr⟩⟩

def OpensAll (P : Program) (ts : List TypeId) (X : Type) (to : X → List AV) (ok : X → Prop) : Prop :=
  ∀ (H : Type) (e : TypeId × Value → H) (w : World) (b : Nat) (vs : List Value) (ds : List (DataW H)) (ps : List MemPlace),
    DataW.TrodAll e P w 0 (fun _ => true) true ts vs ds ps → (∀ (j : Nat) t v, ts[j]? = some t → vs[j]? = some v → Value.okWide P w .any b t v) →
    (∀ n ∈ DataW.weightsEach P ts ds, n ≤ reachBytes) → ∃ x, ok x ∧ VsRel m₀ (fun cb => cb < w.heap.size) w (to x) vs

theorem OpensAll.nil {P : Program} : OpensAll P [] Unit (fun _ => []) (fun _ => True) := by
  intro H e w b vs ds ps h _ _
  obtain ⟨rfl, rfl, rfl⟩ := trodAll_nil h
  exact ⟨(), trivial, by simp [VsRel]⟩

theorem OpensAll.cons {P : Program} {t : TypeId} {ts : List TypeId} {X Y : Type} {to : X → AV} {ok : X → Prop} {to' : Y → List AV} {ok' : Y → Prop}
    (O : OpensArg P t X to ok) (Os : OpensAll P ts Y to' ok') : OpensAll P (t :: ts) (X × Y) (fun x => to x.1 :: to' x.2) (fun x => ok x.1 ∧ ok' x.2) := by
  intro H e w b vs ds ps h hv hw
  obtain ⟨v, vs', d, ds', p, q, rfl, rfl, rfl, h1, h2⟩ := trodAll_cons h
  obtain ⟨x, hx, hr⟩ := O.opened H e w b v d p h1 (hv 0 t v rfl rfl) (fun n hn => hw n (by simp [DataW.weightsEach, hn]))
  obtain ⟨y, hy, hs⟩ := Os H e w b vs' ds' q h2 (fun j t v h1 h2 => hv (j + 1) t v (by simpa using h1) (by simpa using h2)) (fun n hn => hw n (by simp [DataW.weightsEach, hn]))
  exact ⟨(x, y), ⟨hx, hy⟩, by simp only [VsRel]; exact ⟨_, _, rfl, hr, hs⟩⟩


theorem trodAll_len {H : Type} {enc : TypeId × Value → H} {P : Program} {w : World} {base : Nat} {sp : Nat → Bool} {held : Bool} : ∀ {ts : List TypeId} {vs : List Value} {ds : List (DataW H)} {ps : List MemPlace}, DataW.TrodAll enc P w base sp held ts vs ds ps → ds.length = ts.length
  | [], vs, ds, ps, h => by obtain ⟨_, rfl, _⟩ := trodAll_nil h; rfl
  | t :: ts, vs, ds, ps, h => by
    obtain ⟨v, vs', d, ds', p, q, _, rfl, _, _, h2⟩ := trodAll_cons h
    simp [trodAll_len h2]

theorem Below.trodAll' {H : Type} {enc : TypeId × Value → H} {P : Program} (hl : laidOutB P = true) {W W' : World} (hb : Below W.heap.size W W') {sp : Nat → Bool} {ts : List TypeId} {vs : List Value} {ds : List (DataW H)} {ps : List MemPlace}
    (ht : ∀ t ∈ ts, P.readableRec t = true ∧ t < P.types.size) (h : DataW.TrodAll enc P W 0 (fun _ => true) true ts vs ds ps) (hlt : ∀ x ∈ ps, x.block < W.heap.size) (hsp : ∀ x ∈ ps, sp x.block = true) :
    DataW.TrodAll enc P W' 0 sp true ts vs ds ps := by
  induction ts generalizing vs ds ps with
  | nil => obtain ⟨rfl, rfl, rfl⟩ := trodAll_nil h; exact rfl
  | cons t ts ih =>
    obtain ⟨v, vs', d, ds', p, q, rfl, rfl, rfl, h1, h2⟩ := trodAll_cons h
    have hh := ht t (List.mem_cons_self ..)
    exact ⟨p, q, WideElems.Trod_stays hl hh.1 hh.2 h1 (fun x hx => hb.same (hlt x (List.mem_append_left _ hx))) (fun x hx => hsp x (List.mem_append_left _ hx)),
      ih (fun t h => ht t (List.mem_cons_of_mem _ h)) h2 (fun x hx => hlt x (List.mem_append_right _ hx)) (fun x hx => hsp x (List.mem_append_right _ hx)), rfl⟩

theorem Step.below {ro : Nat → Prop} {W : World} {m' ro' H' W'} (h : Step m₀ ro (lk []) W m' ro' H' W') : Below W.heap.size W W' :=
  ⟨h.os, h.tape, h.out, h.size, fun k hk => h.kept k hk MW.empty⟩

structure SaysTrue (s : ChangeSpec) (n : Nat) : Prop where
  vars : s.vars = []
  says : ∀ (H : Type) (ds : List (DataW H)), ds.length = n → s.fn H ds = { results := [.lit (.bool true)], args := ds }

theorem post_same {H : Type} {enc : TypeId × Value → H} {P : Program} {f : Func} {s : ChangeSpec} {apart fresh handsOn again : Bool} {W W' : World} {args : Array Value} {v : Value} {ds gs : List (DataW H)} {before pa pv : List MemPlace}
    (hW : DataW.Whole enc P f.params.toList s.vars apart W args.toList ds gs before)
    (hres : ∀ (b : Nat) (sp : Nat → Bool) (hd : Bool), DataW.TrodAll enc P W' b sp hd f.resultTypes.toList (v.resultList f.resultTypes.size) (s.fn H (ds ++ gs)).results [])
    (hargs : ∀ sp : Nat → Bool, (∀ p ∈ before, sp p.block = true) → DataW.TrodAll enc P W' 0 sp true f.params.toList args.toList (s.fn H (ds ++ gs)).args pa)
    (hvars : ∀ sp : Nat → Bool, (∀ p ∈ before, sp p.block = true) → DataW.TrodVars enc P W' sp s.vars (s.fn H (ds ++ gs)).vars pv)
    (hps : before = pa ++ pv) (hb : Below W.heap.size W W')
    (hok : ∀ (j : Nat) (t : TypeId) (r : Value), f.resultTypes[j]? = some t → (v.resultList f.resultTypes.size)[j]? = some r → Value.okWide P W' .any 0 t r) :
    s.post enc P f apart fresh handsOn again W args v W' := by
  have hold : ∀ p ∈ before, (fun b => decide (b < W.heap.size)) p.block = true := fun p hp => by simpa using hW.lt p hp
  refine ⟨ds, gs, before, [], pa, pv, hW, hres _ _ _, hargs _ hold, hvars _ hold, World.keptBut_mono (fun p hp => ⟨hp, ?_⟩) (hb.frame (· ∈ before)), fun _ => ?_⟩
  · rw [hps, List.mem_append] at hp
    exact Or.inr hp
  · have hlt := hW.lt
    obtain ⟨_, _, _, _, _, hz, hn⟩ := hW
    refine ⟨hok, _, _, ([] ++ pa) ++ pv, ⟨[] ++ pa, pv, trodAll_append (hargs _ (fun _ _ => rfl)) (hres _ _ _), hvars _ (fun _ _ => rfl), rfl, ?_, ?_⟩, ?_⟩
    · intro b off hp
      have hp' : MemPlace.cell b off ∈ before := by rw [hps]; simpa using hp
      rw [hb.frozen (hlt _ hp')]
      exact hz b off hp'
    · intro ha
      have := hn ha
      rw [hps] at this
      simpa using this
    · intro p hp _
      rw [hps]
      simpa using hp

theorem row_of_laid {H : Type} {enc : TypeId × Value → H} {C : Checked} {os : Os} {f : FuncId} {fn : Func} {s : ChangeSpec} {conds : List PathCond} {a : Assume} {fresh handsOn : Bool} {t : TypeId} {laid : List (String × DataW Unit)} {X : Type} {to : X → List AV} {ok : X → Prop}
    (own : ownKnob C.prog.godebug = none) (started : os.Started) (noInit : C.prog.inits.idxOf? f = none) (hfn : C.prog.funcs[f]? = some fn) (hl : laidOutB C.prog = true)
    (hres : fn.resultTypes = #[t]) (htb : C.prog.underlying t = some .bool) (hs : SaysTrue s fn.params.size)
    (hts : (fn.params.toList.all fun t => C.prog.readableRec t && decide (t < C.prog.types.size)) = true)
    (witness : ∃ (w : World) (tape : Tape) (i : Input), w.os = os ∧ (w.forCall tape i).Shaped C.prog ∧ i.vars = [] ∧ Input.okWide C.prog (w.forCall tape i) .any w.heap.size f i ∧
      ((s.pre enc C.prog fn conds false (w.forCall tape i).memory i.args ∧ laidMetH C.prog laid (w.forCall tape i).memory) ∧ sizedMet enc C.prog fn (OpenSpec.ofChange s) false (w.forCall tape i).memory i.args) ∧ a.holds C.prog (lone (Frame.enter C.prog f i.args .normal) [] (w.forCall tape i)))
    (O : OpensAll C.prog fn.params.toList X to ok) (hX : ∀ w w' : World, w.heap = w'.heap → laidMetH C.prog laid w → laidMetH C.prog laid w') (hG : ∀ W : World, laidMetH C.prog laid W → GRel m₀ (fun cb => cb < W.heap.size) W) (hp : ∀ x, ok x → Pure C.prog f (to x) (.bool true)) :
    ReturnsInHanded a C os f .any (fun w args => (s.pre enc C.prog fn conds false w args ∧ laidMetH C.prog laid w) ∧ sizedMet enc C.prog fn (OpenSpec.ofChange s) false w args) (s.post enc C.prog fn false fresh handsOn false) := by
  refine returnsInHanded_of_change_and (X := fun w _ => laidMetH C.prog laid w) (fun w w' _ hh h => hX w w' hh h) own started noInit hfn witness ?_
  intro W base args ds gs before hval hW _ hz hL _
  have hW' := hW
  obtain ⟨p, q, hA, hV, rfl, hfz, hnd⟩ := hW
  rw [hs.vars] at hV
  have hgs : gs = [] ∧ q = [] := by
    cases gs with
    | nil => exact ⟨rfl, hV⟩
    | cons _ _ => exact hV.elim
  obtain ⟨rfl, rfl⟩ := hgs
  have hlt := hW'.lt
  simp only [List.append_nil] at hW' hlt
  obtain ⟨x, hx, hr⟩ := O H enc W base args.toList ds p hA (fun j t v h1 h2 => hval j t v (by simpa using h1) (by simpa using h2)) (fun n hn => by
    have hvt : s.plain.varTypes C.prog = [] := by simp [DataSpec.varTypes, ChangeSpec.plain, hs.vars]
    rw [hvt] at hz
    simp only [List.append_nil] at hz
    simpa using List.all_eq_true.1 hz n hn)
  have hcall := (hp x hx).call.2 m₀ _ W args (Inv.empty (fun _ h => h) (hG W hL)) hr
  refine hcall.mono fun e W' ⟨m', ro', out, H', ⟨ho, hH⟩, hout, _, hstep⟩ => ?_
  subst ho; subst hH
  cases e with
  | returned v =>
    simp only [OutRel, VRel] at hout
    subst hout
    have hb := hstep.below
    have hlen : ds.length = fn.params.size := by simpa using trodAll_len hA
    have hts' : ∀ t ∈ fn.params.toList, C.prog.readableRec t = true ∧ t < C.prog.types.size := fun t h => by
      have := List.all_eq_true.1 hts t h
      simpa using this
    have hsays := hs.says H (ds ++ []) (by simpa using hlen)
    refine ⟨_, rfl, post_same (pa := p) (pv := []) (by simpa using hW') (fun b sp hd => ?_) (fun sp hsp => ?_) (fun sp hsp => ?_) (by simp) hb (ok_one hres rfl (okWide_bool_mk htb _))⟩
    · rw [hsays, hres]
      exact trodAll_mk1 (shut_bool htb true)
    · rw [hsays]
      simpa using Below.trodAll' hl hb hts' hA hlt (by simpa using hsp)
    · rw [hs.vars, hsays]
      exact rfl
  | _ => simp [OutRel] at hout
end Tab

/- Arguments of a recursive type: opened up to a depth. -/
namespace Tab
open Go Go.ChangeShapes Go.WideShapes
variable [Globs]

structure OpensB (F : Nat) (P : Program) (t : TypeId) (X : Type) (enc : X → List AV) (ok : X → Prop) : Prop where
  shut : ∀ x, closeds (enc x)
  opened : ∀ (H : Type) (e : TypeId × Value → H) (w : World) (fuel : Nat) (cs : List Value) (d : DataW H) (ps : List MemPlace), fuel < F →
    DataW.trod e P w 0 (fun _ => true) true fuel t cs = some (d, ps) → (∀ n ∈ d.weights P t, n ≤ reachBytes) →
    ∃ x, ok x ∧ cs.length = P.cellsOf t ∧ (∀ v ∈ cs, v.oneCell' = true) ∧ VsRel m₀ (fun cb => cb < w.heap.size) w (enc x) cs
theorem Opens.b {P : Program} {t : TypeId} {X : Type} {enc : X → List AV} {ok : X → Prop} (O : Opens P t X enc ok) (F : Nat) : OpensB F P t X enc ok :=
  ⟨O.shut, fun H e w fuel cs d ps _ h hw => O.opened H e w fuel cs d ps h hw⟩
theorem OpensB.all {P : Program} {t : TypeId} {X : Type} {enc : X → List AV} {ok : X → Prop} (O : ∀ F, OpensB F P t X enc ok) : Opens P t X enc ok :=
  ⟨(O 0).shut, fun H e w fuel cs d ps h hw => (O (fuel + 1)).opened H e w fuel cs d ps (Nat.lt_succ_self _) h hw⟩
theorem OpensB.less {F G : Nat} {P : Program} {t : TypeId} {X : Type} {enc : X → List AV} {ok : X → Prop} (O : OpensB F P t X enc ok) (h : G ≤ F) : OpensB G P t X enc ok :=
  ⟨O.shut, fun H e w fuel cs d ps hf h' hw => O.opened H e w fuel cs d ps (Nat.lt_of_lt_of_le hf h) h' hw⟩
theorem OpensB.map {F : Nat} {P : Program} {t : TypeId} {X Y : Type} {enc : X → List AV} {ok : X → Prop} {enc' : Y → List AV} {ok' : Y → Prop} (g : X → Y) (O : OpensB F P t X enc ok) (hs : ∀ y, closeds (enc' y)) (he : ∀ x, enc' (g x) = enc x) (ho : ∀ x, ok x → ok' (g x)) :
    OpensB F P t Y enc' ok' :=
  ⟨hs, fun H e w fuel cs d ps hf h hw => by
    obtain ⟨x, h1, h2, h3, h4⟩ := O.opened H e w fuel cs d ps hf h hw
    exact ⟨g x, ho x h1, h2, h3, by rw [he]; exact h4⟩⟩

theorem OpensB.slice {F : Nat} {P : Program} {t e : TypeId} {X : Type} {enc : X → List AV} {ok : X → Prop} (ht : P.underlying t = some (.slice e)) (hc : P.cellsOf t = 1) (hlen : ∀ x, (enc x).length = P.cellsOf e) (hpos : 0 < P.cellsOf e)
    (O : OpensB F P e X enc ok) : OpensB (F + 1) P t (SK × List X) (fun x => [.sl x.1 x.2.length (x.2.flatMap enc)])
      (fun x => ((x.1 = .nil ∧ x.2 = []) ∨ x.1 = .nn) ∧ (∀ y ∈ x.2, ok y) ∧ x.2.length * P.bytesOf e ≤ reachBytes) where
  shut := fun x => by
    simp only [closeds, AV.closed, and_true]
    rw [closeds_iff]
    intro a ha
    obtain ⟨y, _, hy⟩ := List.mem_flatMap.1 ha
    exact closeds_iff.1 (O.shut y) a hy
  opened := fun H en w fuel cs d ps hF h hw => by
    rcases DataW.trod_slice ht h with ⟨rfl, _⟩ | ⟨a, len, cap, elems, rest, n, hfn, rfl, hx, _, hle, hmx, hel, hget, _, _⟩
    · exact ⟨(.nil, []), ⟨.inl ⟨rfl, rfl⟩, by simp, by simp⟩, by simp [hc], by simp [Value.oneCell'], by simp [VsRel, VRel]⟩
    · simp only [Prod.mk.injEq] at hx
      obtain ⟨rfl, rfl⟩ := hx
      have key : ∀ i, i < len → ∃ x, ok x ∧ a.spot = none ∧ CsRel m₀ (fun cb => cb < w.heap.size) w (enc x) a.block (a.off + i * P.cellsOf e) := by
        intro i hi
        have hg := hget i hi
        rw [List.getElem?_eq_getElem (by omega)] at hg
        obtain ⟨cs, hcs, htr⟩ := Option.bind_eq_some_iff.1 hg
        obtain ⟨_, hl, hcell⟩ := World.cells?_some hcs
        obtain ⟨x, hok, hl', hone, hrel⟩ := O.opened H en w n cs elems[i].1 elems[i].2 (by omega) htr (fun n hn => hw n (by
          simp only [DataW.weights, ht, List.mem_cons, List.mem_append]
          exact .inr (.inl (weightsAll_mem (List.mem_map.2 ⟨elems[i], List.getElem_mem _, rfl⟩) hn))))
        have hspot : (a.add (i * P.cellsOf e)).spot = none := by
          have := hcell 0 hpos
          rw [List.getElem?_eq_getElem (by omega)] at this
          simpa [Addr.add] using (cell?_spot this).1
        have hcell' : ∀ j, j < P.cellsOf e → w.cell? ⟨a.block, a.off + i * P.cellsOf e + j, none⟩ = cs[j]? := by
          intro j hj
          rw [← hcell j hj]
          congr 1
          have : a.add (i * P.cellsOf e) = ⟨a.block, a.off + i * P.cellsOf e, none⟩ := by
            have h1 := hspot
            unfold Addr.add at h1 ⊢
            split
            · rename_i h0
              rw [if_pos h0] at h1
              rw [h0]; cases a; simp_all
            · rfl
          rw [this]
          unfold Addr.add
          split <;> simp_all
        refine ⟨x, hok, ?_, ?_⟩
        · have hs0 := hget 0 (by omega)
          rw [List.getElem?_eq_getElem (by omega)] at hs0
          obtain ⟨cs0, hcs0, _⟩ := Option.bind_eq_some_iff.1 hs0
          obtain ⟨_, hl0, hcell0⟩ := World.cells?_some hcs0
          have := hcell0 0 hpos
          rw [List.getElem?_eq_getElem (by omega)] at this
          simpa [Addr.add] using (cell?_spot this).1
        · rw [CsRel_iff]
          intro j av hj
          have hjl : j < P.cellsOf e := by
            have := (List.getElem?_eq_some_iff.1 hj).1; rw [hlen] at this; exact this
          obtain ⟨v, hv, hr⟩ := hrel.get hj
          have hc' := hcell' j hjl
          rw [hv] at hc'
          exact ⟨(cell?_spot hc').2, v, hc', hone v (List.mem_of_getElem? hv), hr⟩
      obtain ⟨xs, hxl, hxs⟩ := list_of (Q := fun i x => ok x ∧ a.spot = none ∧ CsRel m₀ (fun cb => cb < w.heap.size) w (enc x) a.block (a.off + i * P.cellsOf e)) len key
      refine ⟨(.nn, xs), ⟨.inr rfl, ?_, ?_⟩, by simp [hc], by simp [Value.oneCell'], ?_⟩
      · intro y hy
        obtain ⟨i, hi⟩ := List.getElem?_of_mem hy
        exact (hxs i y hi).1
      · have := hw ((elems.length + rest.length) * P.bytesOf e) (by simp [DataW.weights, ht])
        show xs.length * _ ≤ _
        rw [hxl, ← hel]
        exact Nat.le_trans (Nat.mul_le_mul_right _ (Nat.le_add_right _ _)) this
      · simp only [VsRel, VRel]
        refine ⟨_, _, rfl, .inr ⟨by simp, a, cap, by rw [hxl], by omega, by simp, ?_⟩, rfl⟩
        rcases Nat.eq_zero_or_pos len with h0 | h0
        · left
          have : xs = [] := List.length_eq_zero_iff.1 (by omega)
          subst this; simp
        · right
          have h00 := hxs 0 xs[0] (List.getElem?_eq_getElem (by omega))
          exact ⟨h00.2.1, cs_flat hlen xs a.off (fun i x hi => (hxs i x hi).2.2)⟩

def OpensFsB (F : Nat) (P : Program) (fs : List Field) (k tot : Nat) (X : Type) (enc : X → List AV) (ok : X → Prop) : Prop :=
  (∀ x, closeds (enc x)) ∧
  ∀ (H : Type) (e : TypeId × Value → H) (w : World) (n : Nat) (cs : List Value) (xs : List (DataW H × List MemPlace)), n < F → xs.length = fs.length →
    (∀ (i : Nat) (f : Field), fs[i]? = some f → DataW.trod e P w 0 (fun _ => true) true n f.type ((cs.drop f.offset).take (P.cellsOf f.type)) = xs[i]?) →
    (∀ n ∈ DataW.weightsEach P (fs.map (·.type)) (xs.map (·.1)), n ≤ reachBytes) → cs.length = k + tot →
    ∃ x, ok x ∧ (∀ v ∈ cs.drop k, v.oneCell' = true) ∧ VsRel m₀ (fun cb => cb < w.heap.size) w (enc x) (cs.drop k)

theorem OpensFsB.nil {F : Nat} {P : Program} {k : Nat} : OpensFsB F P [] k 0 Unit (fun _ => []) (fun _ => True) := by
  refine ⟨fun _ => by simp [closeds], fun H e w n cs xs _ _ _ _ hl => ⟨(), trivial, ?_, ?_⟩⟩
  · rw [List.drop_of_length_le (by omega)]; simp
  · rw [List.drop_of_length_le (by omega)]; simp [VsRel]

theorem OpensFsB.cons {F : Nat} {P : Program} {f : Field} {fs : List Field} {k c tot : Nat} {X Y : Type} {enc : X → List AV} {ok : X → Prop} {enc' : Y → List AV} {ok' : Y → Prop}
    (hoff : f.offset = k) (hc : P.cellsOf f.type = c) (O : OpensB F P f.type X enc ok) (Os : OpensFsB F P fs (k + c) tot Y enc' ok') :
    OpensFsB F P (f :: fs) k (c + tot) (X × Y) (fun x => enc x.1 ++ enc' x.2) (fun x => ok x.1 ∧ ok' x.2) := by
  refine ⟨fun x => ?_, fun H e w n cs xs hn hl hf hw hlen => ?_⟩
  · rw [closeds_iff]
    intro a ha
    rcases List.mem_append.1 ha with h | h
    · exact closeds_iff.1 (O.shut _) a h
    · exact closeds_iff.1 (Os.1 _) a h
  · match xs, hl with
    | x :: xs, hl =>
      have h0 := hf 0 f rfl
      simp only [List.getElem?_cons_zero] at h0
      obtain ⟨a, ha, hal, hao, har⟩ := O.opened H e w n _ x.1 x.2 hn h0 (fun m hm => hw m (by simp [DataW.weightsEach, hm]))
      obtain ⟨b, hb, hbo, hbr⟩ := Os.2 H e w n cs xs hn (by simpa using hl) (fun i g hi => by simpa using hf (i + 1) g (by simpa using hi))
        (fun m hm => hw m (by simp [DataW.weightsEach, hm])) (by omega)
      have hsplit : cs.drop k = (cs.drop f.offset).take (P.cellsOf f.type) ++ cs.drop (k + c) := by
        rw [hoff, hc, ← List.drop_drop, List.take_append_drop]
      refine ⟨(a, b), ⟨ha, hb⟩, ?_, ?_⟩
      · rw [hsplit]
        intro v hv
        rcases List.mem_append.1 hv with h | h
        · exact hao v h
        · exact hbo v h
      · rw [hsplit]
        exact har.append hbr

theorem OpensB.struct {F : Nat} {P : Program} {t : TypeId} {fs : Array Field} {tot : Nat} {X : Type} {enc : X → List AV} {ok : X → Prop} (ht : P.underlying t = some (.struct fs)) (hc : P.cellsOf t = tot)
    (O : OpensFsB F P fs.toList 0 tot X enc ok) : OpensB (F + 1) P t X enc ok where
  shut := O.1
  opened := fun H e w fuel cs d ps hF h hw => by
    obtain ⟨xs, n, hfn, hx, hl, hlen, hf⟩ := DataW.trod_struct ht h
    simp only [Prod.mk.injEq] at hx
    obtain ⟨rfl, rfl⟩ := hx
    obtain ⟨x, hx, ho, hr⟩ := O.2 H e w n cs xs (by omega) (by simpa using hlen) (fun i f hi => hf i f (by simpa using hi)) (by simpa [DataW.weights, ht] using hw) (by omega)
    exact ⟨x, hx, hl, by simpa using ho, by simpa using hr⟩
end Tab
