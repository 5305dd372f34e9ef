/- Lemmas for this claim: part 4. No condition. -/
import Derived.Test.YtiflemdfnjgobaaDoorZ3
import Derived.DeepKeys
set_option linter.unusedVariables false
set_option linter.unusedSimpArgs false
set_option linter.unusedSectionVars false
/- The abstract machine's operations: a map's literal, clear, equality of structs and arrays, nil functions and pointers. -/
namespace Tab
open Go
variable [Globs]

theorem sem_insert_new {P : Program} {o : Oper} {ρ n t x y z b} {es : List (Value × Value)} {kt et : TypeId} {kv v : Value} {lx : Lit} {ka va : AV} (ho : o.op = .insert t x y z) (hs : P.underlying t = some (.map kt et)) (K : Maps.Keyed P kt)
    (h1 : ρ x = .mp b) (h2 : ρ y = ka) (h3 : ρ z = va) (hk : ka.pk = some kv) (hv : va.pk = some v) (hlx : keyOf P kt kv = some lx) (hks : DKeys P kt es) (hf : DFind es kv none) :
    OpSem P o ρ n { v := .junk, need := [(b, .dict es)], upd := some (b, .dict (es ++ [(kv, v)])) } := by
  intro m ro H w a hi hx hn hfr next Q kk
  have h := sem_mapUpdate_new (P := P) (o := { o with op := .mapUpdate t x y z }) (ρ := ρ) (n := n) (b := b) rfl hs K h1 h2 h3 hk hv hlx hks hf m ro H w a hi (fun q hq => hx q (by simpa [ho, Op.operands] using hq)) hn hfr next Q kk
  unfold Oper.wp at h ⊢
  have e : execOp a.eval { o with op := .mapUpdate t x y z } = execOp a.eval o := by simp [execOp, ho]
  rw [e] at h
  exact h

theorem PutE.ins {P : Program} {o : Oper} {ρ n t x y z b} {es : List (Value × Value)} {e : Eff} (ho : o.op = .insert t x y z) (h1 : ρ x = .mp b) (h : PutE P t (ρ y) (ρ z) b es e) : OpSem P o ρ n e := by
  cases h with
  | new hs K hk hv hlx hks hf => exact sem_insert_new ho hs K h1 rfl rfl hk hv hlx hks hf
theorem PutE.fit {P t ka va b es e} (h : PutE P t ka va b es e) : e.need = [(b, .dict es)] ∧ ∃ y, e.upd = some (b, y) := by cases h; exact ⟨rfl, _, rfl⟩


def eqv (op : BinOp) (r : Bool) : Bool := match op with | .eql => r | _ => !r

inductive EqlE (P : Program) (t : TypeId) (as bs : List AV) : Bool → Prop
  | mk {xs ys : List Value} {la lb : List Lit} {D D' m : Nat} {r : Bool} (hr : r = true ↔ la = lb) (hx : AV.pvs as = some xs) (hy : AV.pvs bs = some ys) (ha : P.keyLits D t xs = some la) (hb : P.keyLits D' t ys = some lb)
      (hk : P.keyTypeAt m t = true) (hm : m ≤ 10000) (fa : (Value.agg xs.toArray).formed P t = true) (fb : (Value.agg ys.toArray).formed P t = true) (hg : P.eqGuardType P.depth t = false) : EqlE P t as bs r

theorem sem_eqAgg {P : Program} {o : Oper} {ρ n op t x y t'} {as bs : List AV} {r : Bool} (ho : o.op = .binOp op t x y t') (h1 : ρ x = .agg as) (h2 : ρ y = .agg bs) (h : EqlE P t as bs r) (hop : op = .eql ∨ op = .neq) :
    OpSem P o ρ n { v := .bool (eqv op r) } := by
  refine OpSem.value fun m ro H w a hi hx _ => ?_
  have e1 := hx x (by simp [ho, Op.operands])
  have e2 := hx y (by simp [ho, Op.operands])
  rw [h1] at e1
  rw [h2] at e2
  simp only [VRel] at e1 e2
  cases h with
  | mk hr0 px py ha hb hk hm fa fb hg =>
    rename_i xs ys la lb D D' m'
    obtain ⟨c1, e1, _, r1⟩ := e1
    obtain ⟨c2, e2, _, r2⟩ := e2
    have r1 := (AV.pvs_rel px).1 r1
    have r2 := (AV.pvs_rel py).1 r2
    have q1 : c1 = xs.toArray := by rw [← r1]
    have q2 : c2 = ys.toArray := by rw [← r2]
    subst q1 q2
    obtain ⟨rr, hr, hiff⟩ := run_equalIn_deep (10000 - m') m' t hk w D D' _ _ la lb fa fb (by simpa [Value.cells] using ha) (by simpa [Value.cells] using hb)
    rw [show 10000 - m' + m' = 10000 by omega] at hr
    have hrr : rr = r := by cases rr <;> cases r <;> simp_all
    subst hrr
    have hgd : ∀ op, op = .eql ∨ op = .neq → (eqGuard op t x y (.agg xs.toArray) (.agg ys.toArray)).run P w = .ok () w := fun op ho => by
      rcases ho with rfl | rfl <;> simp [eqGuard, hg]
    rcases hop with rfl | rfl
    · refine ⟨.bool rr, ?_, vrel_bool⟩
      simp only [execOp, ho, e1, e2, Sem.run_bind, hgd _ (.inl rfl), Result.andThen_ok, binOp, Op.equal, Op.maxDepth, hr, Sem.run_pure]
    · refine ⟨.bool (!rr), ?_, vrel_bool⟩
      simp only [execOp, ho, e1, e2, Sem.run_bind, hgd _ (.inr rfl), Result.andThen_ok, binOp, Op.equal, Op.maxDepth, hr, Sem.run_pure]

def isFunTy (P : Program) (t : TypeId) : Bool := match P.underlying t with | some (.func ..) => true | _ => false
theorem isFunTy_some {P : Program} {t : TypeId} (h : isFunTy P t = true) : ∃ a b c, P.underlying t = some (.func a b c) := by
  unfold isFunTy at h
  split at h
  · rename_i e; exact ⟨_, _, _, e⟩
  · simp at h
def isPtrTy (P : Program) (t : TypeId) : Bool := match P.underlying t with | some (.pointer _) => true | _ => false
theorem isPtrTy_some {P : Program} {t : TypeId} (h : isPtrTy P t = true) : ∃ a, P.underlying t = some (.pointer a) := by
  unfold isPtrTy at h
  split at h
  · rename_i e; exact ⟨_, e⟩
  · simp at h

theorem equalIn_fnn {P : Program} {t : TypeId} {a b c} (ht : P.underlying t = some (.func a b c)) (d : Nat) (w : World) : (Op.equalIn (d + 1) t .nilFunc .nilFunc).run P w = .ok true w := by
  simp [Op.equalIn, run_underlying' ht]
theorem equalIn_fn {P : Program} {t : TypeId} {a b c} (ht : P.underlying t = some (.func a b c)) (d : Nat) (f u v) (w : World) : (Op.equalIn (d + 1) t (.func f u v) .nilFunc).run P w = .ok false w := by
  simp [Op.equalIn, run_underlying' ht]
theorem equalIn_ptr {P : Program} {t e : TypeId} (ht : P.underlying t = some (.pointer e)) (d : Nat) (p : Option Addr) (w : World) : (Op.equalIn (d + 1) t (.pointer p) (.pointer none)).run P w = .ok p.isNone w := by
  cases p <;> simp [Op.equalIn, run_underlying' ht]

theorem sem_eqFn {P : Program} {o : Oper} {ρ n op t x y t'} {r : Bool} (ho : o.op = .binOp op t x y t') (h1 : (ρ x = .nilf ∧ r = true) ∨ (∃ f a b, ρ x = .fn f a b ∧ r = false)) (h2 : ρ y = .nilf) (ht : isFunTy P t = true) (hop : op = .eql ∨ op = .neq) :
    OpSem P o ρ n { v := .bool (eqv op r) } := by
  refine OpSem.value fun m ro H w a hi hx _ => ?_
  have e1 := hx x (by simp [ho, Op.operands])
  have e2 := hx y (by simp [ho, Op.operands])
  rw [h2] at e2
  simp only [VRel] at e2
  obtain ⟨ta, tb, tc, hu⟩ := isFunTy_some ht
  have hgd : ∀ op v, op = .eql ∨ op = .neq → (eqGuard op t x y v .nilFunc).run P w = .ok () w := fun op v ho => by
    rcases ho with rfl | rfl <;> cases v <;> rfl
  have heq : ∃ v, a.eval x = v ∧ (Op.equal t v .nilFunc).run P w = .ok r w := by
    rcases h1 with ⟨h, rfl⟩ | ⟨f, p, q, h, rfl⟩
    · rw [h] at e1
      simp only [VRel] at e1
      exact ⟨_, e1, equalIn_fnn hu 9999 w⟩
    · rw [h] at e1
      simp only [VRel] at e1
      obtain ⟨u, v, e1, _⟩ := e1
      exact ⟨_, e1, equalIn_fn hu 9999 _ _ _ w⟩
  obtain ⟨v, hv, heq⟩ := heq
  have hb : ∀ op, op = .eql ∨ op = .neq → (binOp op t v .nilFunc).run P w = .ok (.bool (eqv op r)) w := fun op hop => by
    rcases hop with rfl | rfl
    · have : binOp .eql t v .nilFunc = (do pure (.bool (← Op.equal t v .nilFunc))) := by cases v <;> rfl
      rw [this]; simp [heq, eqv]
    · have : binOp .neq t v .nilFunc = (do pure (.bool (!(← Op.equal t v .nilFunc)))) := by cases v <;> rfl
      rw [this]; simp [heq, eqv]
  refine ⟨.bool (eqv op r), ?_, vrel_bool⟩
  simp only [execOp, ho, hv, e2, Sem.run_bind, hgd _ _ hop, Result.andThen_ok, hb op hop, Sem.run_pure]

theorem sem_eqPtr {P : Program} {o : Oper} {ρ n op t x y t'} {r : Bool} (ho : o.op = .binOp op t x y t') (h1 : (ρ x = .nilp ∧ r = true) ∨ (∃ b g i, ρ x = .ref b g i ∧ r = false) ∨ (∃ cs, ρ x = .tref cs ∧ r = false)) (h2 : ρ y = .nilp) (ht : isPtrTy P t = true) (hop : op = .eql ∨ op = .neq) :
    OpSem P o ρ n { v := .bool (eqv op r) } := by
  refine OpSem.value fun m ro H w a hi hx _ => ?_
  have e1 := hx x (by simp [ho, Op.operands])
  have e2 := hx y (by simp [ho, Op.operands])
  rw [h2] at e2
  simp only [VRel] at e2
  obtain ⟨ta, hu⟩ := isPtrTy_some ht
  have hgd : ∀ op v, op = .eql ∨ op = .neq → (eqGuard op t x y v (.pointer none)).run P w = .ok () w := fun op v ho => by
    rcases ho with rfl | rfl <;> cases v <;> rfl
  have heq : ∃ p, a.eval x = .pointer p ∧ (Op.equal t (.pointer p) (.pointer none)).run P w = .ok r w := by
    rcases h1 with ⟨h, rfl⟩ | ⟨b, g, i, h, rfl⟩ | ⟨cs, h, rfl⟩
    · rw [h] at e1
      simp only [VRel] at e1
      exact ⟨_, e1, equalIn_ptr hu 9999 _ w⟩
    · rw [h] at e1
      simp only [VRel] at e1
      obtain ⟨u, v, _, e1⟩ := e1
      exact ⟨_, e1, equalIn_ptr hu 9999 _ w⟩
    · rw [h] at e1
      simp only [VRel] at e1
      obtain ⟨u, v, e1, _⟩ := e1
      exact ⟨_, e1, equalIn_ptr hu 9999 _ w⟩
  obtain ⟨v, hv, heq⟩ := heq
  refine ⟨.bool (eqv op r), ?_, vrel_bool⟩
  rcases hop with rfl | rfl
  · simp only [execOp, ho, hv, e2, Sem.run_bind, hgd _ _ (.inl rfl), Result.andThen_ok, binOp, heq, Sem.run_pure, eqv]
  · simp only [execOp, ho, hv, e2, Sem.run_bind, hgd _ _ (.inr rfl), Result.andThen_ok, binOp, heq, Sem.run_pure, eqv]


theorem sem_clear {P : Program} {o : Oper} {ρ n} {c : Call} {x : Operand} {t e : TypeId} {z by' b g i N es cs} (ho : o.op = .call c) (hc : c.callee = .builtin .clear) (ha : c.args = #[x]) (ht : c.argTypes = #[t])
    (he : tyElem P t = some e) (hz : tyE P e = some (z, by')) (h1 : ρ x = .hs b g i N es) (hes : z.length = es) (hfit : i + N * es ≤ cs.length) :
    OpSem P o ρ n { v := .tup [], need := [(b, .cells g cs)], upd := some (b, .cells g (over cs i (reps z N))) } := by
  obtain ⟨ie, zv, hinfo, hzero, ⟨hzs, hone⟩, rfl, hby, hlen⟩ := tyE_some hz
  have hu := tyElem_some he
  rw [hes] at hlen
  intro m ro H w a hi hx hn hf next Q kk
  have e1 := hx x (by simp [ho, Op.operands, Call.operands, hc, ha])
  rw [h1] at e1
  simp only [VRel] at e1
  obtain ⟨loc, hm, e1⟩ := e1
  have hB := hn (b, .cells g cs) (by simp)
  have hnext : ∀ (w' : World) (cs' : List AV), cs' = over cs i (reps (zv.cells.toList.map cv) N) → (execOp a.eval o).run P w = .ok (.value (.tuple #[])) w' → Inv m ro (app H n { v := .tup [], need := [(b, .cells g cs)], upd := some (b, .cells g cs') }) w' →
      Step m ro H w m ro (app H n { v := .tup [], need := [(b, .cells g cs)], upd := some (b, .cells g cs') }) w' → o.wp P a w next Q := by
    rintro w' cs' rfl hex k1 k2
    unfold Oper.wp
    rw [hex]
    refine kk _ _ _ (.tuple #[]) (by simp only [VRel]; exact ⟨#[], rfl, by simp [VsRel]⟩) k1 k2 (fun b' g₁ hne => absurd rfl hne)
  cases loc with
  | void =>
    simp only [HsRel] at e1
    obtain ⟨hv, rfl, rfl⟩ := e1
    have hcs : cs = [] := by
      have := hi.blk b _ hB _ hm
      exact this
    subst hcs
    have hex : (execOp a.eval o).run P w = .ok (.value (.tuple #[])) w := by
      simp [execOp, ho, resolve, hc, ha, ht, invoke, builtin, Builtin.clear_, hv, run_underlying' hu]
    have happ : app H n { v := .tup [], need := [(b, .cells g [])], upd := some (b, .cells g (over [] 0 (reps (zv.cells.toList.map cv) 0))) } = H := by
      funext b'
      simp only [app]
      by_cases h : b' = b
      · subst h; simp [reps, over, hB]
      · simp [h]
    exact hnext w _ rfl hex (by rw [happ]; exact hi) (by rw [happ]; exact Step.refl ..)
  | «at» cb base =>
    simp only [HsRel] at e1
    obtain ⟨cap, hv, hle, cc, tt, fr, hcc, hsz⟩ := e1
    obtain ⟨c', t', hc', hl⟩ := hi.blk b _ hB _ hm
    rw [hc'] at hcc
    cases hcc
    rcases Nat.eq_zero_or_pos N with rfl | hN
    · have hex : (execOp a.eval o).run P w = .ok (.value (.tuple #[])) w := by
        simp [execOp, ho, resolve, hc, ha, ht, invoke, builtin, Builtin.clear_, hv, run_underlying' hu]
      have happ : app H n { v := .tup [], need := [(b, .cells g cs)], upd := some (b, .cells g (over cs i (reps (zv.cells.toList.map cv) 0))) } = H := by
        funext b'
        simp only [app]
        by_cases h : b' = b
        · subst h; simp [reps, over, hB]
        · simp [h]
      exact hnext w _ rfl hex (by rw [happ]; exact hi) (by rw [happ]; exact Step.refl ..)
    · obtain ⟨r1, r2⟩ := reps_rel (m := m) (ro := ro) (w := w) zv hone N
      have hzc : Builtin.zeroCells zv.cells N = (Array.range (N * zv.cells.size)).map (fun x => zv.cells[x % zv.cells.size]!) := by
        simp [Builtin.zeroCells]
      have hzl : (zv.cells.toList.map cv).length = zv.cells.size := by simp
      have hlenr : ((Array.range (N * zv.cells.size)).map (fun x => zv.cells[x % zv.cells.size]!)).toList.length = N * zv.cells.size := by simp
      have hfit' : base + i + N * zv.cells.size ≤ cc.size := by
        rw [← hes, hzl] at hfit
        rcases Nat.eq_zero_or_pos cs.length with h0 | h0
        · have hcap : N * es ≤ cap * es := Nat.mul_le_mul_right _ hle
          rw [← hes, hzl] at hcap hsz
          omega
        · have hlast : cs[cs.length - 1]? = some (cs[cs.length - 1]'(by omega)) := List.getElem?_eq_getElem _
          obtain ⟨v, hv, _⟩ := hl _ _ hlast
          have := (Array.getElem?_eq_some_iff.1 hv).1
          omega
      have hrun := run_storeCells_at P cb (base + i) tt ((Array.range (N * zv.cells.size)).map (fun x => zv.cells[x % zv.cells.size]!)).toList 0 cc w hc' (by rw [hlenr]; omega) r2
      simp only [Nat.add_zero] at hrun
      have hlay := over_lay hl i r1 r2 (by rw [reps_length, hzl]; exact hfit') (by omega)
      obtain ⟨k1, k2⟩ := hi.write (n := n) hB hm hc' (cc.toList.take (base + i) ++ ((Array.range (N * zv.cells.size)).map (fun x => zv.cells[x % zv.cells.size]!)).toList ++ cc.toList.drop (base + i + ((Array.range (N * zv.cells.size)).map (fun x => zv.cells[x % zv.cells.size]!)).toList.length)).toArray
        (by rw [hlenr]; simp only [List.size_toArray, List.length_append, List.length_take, List.length_drop, Array.length_toList, hlenr] at *; omega) g base (Nat.le_refl _) (fun _ => rfl) (over cs i (reps (zv.cells.toList.map cv) N)) (v := .tup []) (nd := [(b, .cells g cs)]) hlay
      have hmm : (fun b₁ g₁ => if b₁ = b ∧ g₁ = g then some (.at cb base) else m b₁ g₁) = m := by
        funext b₁ g₁
        split
        · rename_i h; obtain ⟨rfl, rfl⟩ := h; exact hm.symm
        · rfl
      rw [hmm] at k1 k2
      refine hnext _ _ rfl ?_ k1 k2
      have hz0 : (zeroValue e).run P w = .ok zv w := run_zero' hinfo hzero w
      rw [← hzc] at hrun ⊢
      generalize w.setRow cb _ = W at hrun ⊢
      clear hzc
      have hcl : (Builtin.clear_ #[t] o.type #[a.eval x]).run P w = .ok (.tuple #[]) W := by
        obtain ⟨N, rfl⟩ : ∃ k, N = k + 1 := ⟨N - 1, by omega⟩
        simp only [Builtin.clear_, hv, Sem.run_bind, run_underlying' hu, Result.andThen_ok, List.getElem?_toArray, List.getElem?_cons_zero, hz0, hrun]
        simp [run_underlying' hu, hz0, hrun]
      simp [execOp, ho, resolve, hc, ha, ht, invoke, builtin, hcl]


def tyField (P : Program) (s : TypeId) (f : Nat) : Option (Nat × Option Nat) :=
  match P.underlying s with
  | some (.struct fields) => match fields[f]? with
    | some x => (tyLd P x.type).map fun r => (x.offset, r)
    | none => none
  | _ => none
theorem tyField_some {P : Program} {s : TypeId} {f off : Nat} {r : Option Nat} (h : tyField P s f = some (off, r)) : ∃ fields x, P.underlying s = some (.struct fields) ∧ fields[f]? = some x ∧ tyLd P x.type = some r ∧ x.offset = off := by
  unfold tyField at h
  split at h
  · rename_i fields hu
    split at h
    · rename_i x hx
      rw [Option.map_eq_some_iff] at h
      obtain ⟨r', h1, h2⟩ := h
      simp only [Prod.mk.injEq] at h2
      exact ⟨fields, x, hu, hx, by rw [h1, h2.2], h2.1⟩
    · simp at h
  · simp at h
theorem tyLd_plain {P : Program} {t : TypeId} (ht : tyLd P t = some none) (w : World) : (isAgg t).run P w = .ok false w := by
  unfold tyLd at ht
  unfold isAgg
  split at ht
  · simp at ht
  · simp at ht
  · rename_i d h1 h2 hu
    simp only [Sem.run_bind, run_underlying' hu, Result.andThen_ok]
    rfl
  · simp at ht
theorem tyLd_struct {P : Program} {t : TypeId} {k : Nat} (h : tyLd P t = some (some k)) (w : World) : (isAgg t).run P w = .ok true w ∧ ∃ i, P.info? t = some i ∧ i.size = k := by
  unfold tyLd at h
  split at h
  · rename_i hu
    cases hi : P.info? t with
    | none => simp [hi] at h
    | some i => exact ⟨by simp [isAgg, run_underlying' hu], i, rfl, by simpa [hi] using h⟩
  · rename_i hu
    cases hi : P.info? t with
    | none => simp [hi] at h
    | some i => exact ⟨by simp [isAgg, run_underlying' hu], i, rfl, by simpa [hi] using h⟩
  · simp at h
  · simp at h

theorem sem_field_one {P : Program} {o : Oper} {ρ n s x f off} {cs : List AV} {c : AV} (ho : o.op = .field s x f) (h1 : ρ x = .agg cs) (ht : tyField P s f = some (off, none)) (hc : cs[off]? = some c) : OpSem P o ρ n { v := c } := by
  refine OpSem.value fun m ro H w a hi hx _ => ?_
  have e1 := hx x (by simp [ho, Op.operands])
  rw [h1] at e1
  simp only [VRel] at e1
  obtain ⟨vs, e, _, hs⟩ := e1
  obtain ⟨v, hv, hr⟩ := hs.get hc
  obtain ⟨fields, y, hu, hy, hl, hoff⟩ := tyField_some ht
  subst hoff
  refine ⟨v, ?_, hr⟩
  have hv' : vs[y.offset]? = some v := by simpa using hv
  simp [execOp, ho, e, Instr.field, run_underlying' hu, hy, asAgg, part, tyLd_plain hl, hv']
theorem sem_field_agg {P : Program} {o : Oper} {ρ n s x f off k} {cs : List AV} (ho : o.op = .field s x f) (h1 : ρ x = .agg cs) (ht : tyField P s f = some (off, some k)) : OpSem P o ρ n { v := .agg ((cs.drop off).take k) } := by
  refine OpSem.value fun m ro H w a hi hx _ => ?_
  have e1 := hx x (by simp [ho, Op.operands])
  rw [h1] at e1
  simp only [VRel] at e1
  obtain ⟨vs, e, hone, hs⟩ := e1
  obtain ⟨fields, y, hu, hy, hl, hoff⟩ := tyField_some ht
  subst hoff
  obtain ⟨g1, i, hi', hk⟩ := tyLd_struct hl w
  refine ⟨.agg (vs.extract y.offset (y.offset + k)), ?_, ?_⟩
  · simp [execOp, ho, e, Instr.field, run_underlying' hu, hy, asAgg, part, g1, run_sizeOf' hi', hk]
  · simp only [VRel]
    have el : (vs.extract y.offset (y.offset + k)).toList = (vs.toList.drop y.offset).take k := by
      rw [Array.toList_extract]; simp [List.extract]
    refine ⟨_, rfl, fun x hx => ?_, ?_⟩
    · rw [el] at hx
      exact hone x (List.mem_of_mem_drop (List.mem_of_mem_take hx))
    · rw [el]; exact (hs.drop _).take _

end Tab
