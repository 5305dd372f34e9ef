/- Lemmas for this claim: part 1. No condition. -/
import Derived.Test.YtiflemdfnjgobaaDoorZ0
import Derived.Laws.Tables
import Derived.Laws.CopyRow
import Derived.Laws.Cells
import Derived.Deep.Draws
import Derived.Lib.Strings
set_option linter.unusedVariables false
set_option linter.unusedSimpArgs false
set_option linter.unusedSectionVars false
/- The abstract machine's operations: what one operation does to slots and to the abstract heap, and that the model's operation does the same. -/
namespace Tab
open Go
variable [Globs]

abbrev Slots := Nat → AV

def upd (s : Slots) (t : Nat) (v : AV) : Slots := fun n => bif Nat.beq n t then v else s n

def updo (s : Slots) : Option Nat → AV → Slots
  | some t, v => upd s t v
  | none, _ => s

def cv : Value → AV
  | .bool b => .bool b
  | .int k n => .int k n
  | .string s => .str s.data.toList
  | .pointer none => .nilp
  | .slice none 0 0 => .sl .nil 0 []
  | .map none => .nilm
  | .nilFunc => .nilf
  | .nilIface => .nili
  | _ => .junk

theorem cv_rel {m ro w} (v : Value) : VRel m ro w (cv v) v := by
  unfold cv
  split <;> simp [VRel]

def ev (s : Slots) : Operand → AV
  | .tmp t => s t
  | .const v => cv v
  | .func f => .fn (.func f) [] []
  | .global g => Globs.gv g

def SlotsRel (m : Mp) (ro : Nat → Prop) (w : World) (s : Slots) (a : Act) : Prop := ∀ t, VRel m ro w (s t) (a.tmps.getD t undef)

theorem ev_rel {m ro w s a} (hg : GRel m ro w) (h : SlotsRel m ro w s a) (x : Operand) : VRel m ro w (ev s x) (a.eval x) := by
  cases x with
  | tmp t => exact h t
  | const v => exact cv_rel v
  | func f => simp [ev, Act.eval, VRel, VsRel]
  | global g => exact hg g

theorem SlotsRel.put {m ro w s a} (h : SlotsRel m ro w s a) {d : Option Nat} {v : AV} {v' : Value} (hv : VRel m ro w v v') (hd : ∀ t, d = some t → t < a.tmps.size) :
    SlotsRel m ro w (updo s d v) (a.put d v') := by
  cases d with
  | none => exact h
  | some t =>
    intro n
    have ht := hd t rfl
    simp only [updo, upd, Act.put]
    by_cases e : n = t
    · subst e
      simp [ht]
      exact hv
    · have : Nat.beq n t = false := by rw [← Bool.not_eq_true]; intro h; exact e (Nat.eq_of_beq_eq_true h)
      rw [this]
      have hne : t ≠ n := fun h => e h.symm
      have : (a.tmps.setIfInBounds t v').getD n undef = a.tmps.getD n undef := by
        simp [Array.getD_eq_getD_getElem?, hne]
      simp only [cond_false]
      rw [this]
      exact h n

theorem SlotsRel.step {m ro H w m' ro' H' w'} (hi : Inv m ro H w) (hs : Step m ro H w m' ro' H' w') {s a} (h : SlotsRel m ro w s a) : SlotsRel m' ro' w' s a :=
  fun t => (h t).step hi hs

structure Eff where
  v : AV
  need : List (Nat × Blk) := []
  upd : Option (Nat × Blk) := none
  new : Option Blk := none

def app (H : Hp) (n : Nat) (e : Eff) : Hp := fun b =>
  match e.new with
  | some x => if b = n then some x else match e.upd with
    | some (i, y) => if b = i then some y else H b
    | none => H b
  | none => match e.upd with
    | some (i, y) => if b = i then some y else H b
    | none => H b

def OpSem (P : Program) (o : Oper) (ρ : Operand → AV) (n : Nat) (e : Eff) : Prop :=
  ∀ m ro H w (a : Act), Inv m ro H w → (∀ x ∈ o.op.operands, VRel m ro w (ρ x) (a.eval x)) → (∀ p ∈ e.need, H p.1 = some p.2) →
    (∀ x, e.new = some x → H n = none ∧ ∀ g, m n g = none) →
    ∀ (next : Act → World → Prop) Q, (∀ m' ro' w' v', VRel m' ro' w' e.v v' → Inv m' ro' (app H n e) w' → Step m ro H w m' ro' (app H n e) w' →
      (∀ b g, m' b g ≠ m b g → (∃ y, e.upd = some (b, y)) ∨ (b = n ∧ e.new.isSome)) → next (a.put o.dst v') w') → o.wp P a w next Q

theorem OpSem.value {P : Program} {o : Oper} {ρ : Operand → AV} {n : Nat} {v : AV} {nd : List (Nat × Blk)}
    (h : ∀ m ro H w (a : Act), Inv m ro H w → (∀ x ∈ o.op.operands, VRel m ro w (ρ x) (a.eval x)) → (∀ p ∈ nd, H p.1 = some p.2) →
      ∃ v', (execOp a.eval o).run P w = .ok (.value v') w ∧ VRel m ro w v v') : OpSem P o ρ n { v := v, need := nd } := by
  intro m ro H w a hi hx hn _ next Q k
  obtain ⟨v', hr, hv⟩ := h m ro H w a hi hx hn
  unfold Oper.wp
  rw [hr]
  exact k m ro w v' hv hi (Step.refl ..) (fun b g h => (h rfl).elim)

def tyE (P : Program) (t : TypeId) : Option (List AV × Nat) :=
  match P.info? t with
  | some i => match i.zero with
    | some z => if z.cells.size = i.size ∧ (∀ v ∈ z.cells.toList, v.oneCell' = true) then some (z.cells.toList.map cv, i.bytes) else none
    | none => none
  | none => none

def tySz (P : Program) (t : TypeId) : Option Nat := (P.info? t).map (·.size)

def tyLd (P : Program) (t : TypeId) : Option (Option Nat) :=
  match P.underlying t with
  | some (.struct _) => (P.info? t).map fun i => some i.size
  | some (.array _ _) => (P.info? t).map fun i => some i.size
  | some _ => some none
  | none => none

def tyElem (P : Program) (t : TypeId) : Option TypeId :=
  match P.underlying t with
  | some (.slice e) => some e
  | _ => none

def tyArr (P : Program) (t : TypeId) : Option (Nat × Nat) :=
  match P.underlying t with
  | some (.array n e) => (P.info? e).map fun i => (n, i.size)
  | _ => none

def tyFld (P : Program) (s : TypeId) (f : Nat) : Option Nat :=
  match P.underlying s with
  | some (.struct fields) => match fields[f]? with
    | some x => match P.info? x.type with
      | some i => if i.size = 0 then none else some x.offset
      | none => none
    | none => none
  | _ => none

def tyInt (P : Program) (t : TypeId) : Option IntKind :=
  match P.underlying t with
  | some (.int k) => some k
  | _ => none

theorem cvs_rel {m ro w} : ∀ (vs : List Value), VsRel m ro w (vs.map cv) vs
  | [] => by simp [VsRel]
  | v :: vs => by simp only [List.map_cons, VsRel]; exact ⟨v, vs, rfl, cv_rel v, cvs_rel vs⟩

theorem run_underlying' {P : Program} {t : TypeId} {d : TypeDesc} (h : P.underlying t = some d) (w : World) : (underlying t).run P w = .ok d w := run_underlying h w

theorem run_typeInfo' {P : Program} {t : TypeId} {i : TypeInfo} (h : P.info? t = some i) (w : World) : (typeInfo t).run P w = .ok i w := by
  simp [typeInfo, h]

theorem run_sizeOf' {P : Program} {t : TypeId} {i : TypeInfo} (h : P.info? t = some i) (w : World) : (Go.sizeOf t).run P w = .ok i.size w := by
  simp [Go.sizeOf, run_typeInfo' h]

theorem run_zero' {P : Program} {t : TypeId} {i : TypeInfo} {z : Value} (h : P.info? t = some i) (hz : i.zero = some z) (w : World) : (zeroValue t).run P w = .ok z w := by
  simp [zeroValue, run_typeInfo' h, hz]

theorem tyE_some {P : Program} {t : TypeId} {z : List AV} {by' : Nat} (h : tyE P t = some (z, by')) :
    ∃ i zv, P.info? t = some i ∧ i.zero = some zv ∧ (zv.cells.size = i.size ∧ ∀ v ∈ zv.cells.toList, v.oneCell' = true) ∧ z = zv.cells.toList.map cv ∧ i.bytes = by' ∧ i.size = z.length := by
  unfold tyE at h
  split at h
  · rename_i i hi
    split at h
    · rename_i zv hz
      split at h
      · rename_i hs
        simp only [Option.some.injEq, Prod.mk.injEq] at h
        obtain ⟨rfl, rfl⟩ := h
        exact ⟨i, zv, hi, hz, hs, rfl, rfl, by simp [hs.1]⟩
      · simp at h
    · simp at h
  · simp at h


theorem vrel_int {m ro w k i} : VRel m ro w (.int k i) (.int k i) := by simp only [VRel]
theorem vrel_bool {m ro w b} : VRel m ro w (.bool b) (.bool b) := by simp only [VRel]

theorem sem_move {P : Program} {o : Oper} {ρ n x} (ho : o.op = .move x ∨ o.op = .assign x) : OpSem P o ρ n { v := ρ x } := by
  refine OpSem.value fun m ro H w a hi hx _ => ⟨a.eval x, ?_, hx x ?_⟩
  · rcases ho with ho | ho <;> simp [execOp, ho]
  · rcases ho with ho | ho <;> simp [ho, Op.operands]

theorem sem_pick {P : Program} {o : Oper} {ρ n c x y} {b : Bool} (ho : o.op = .pick c x y) (hc : ρ c = .bool b) : OpSem P o ρ n { v := if b then ρ x else ρ y } := by
  refine OpSem.value fun m ro H w a hi hx _ => ?_
  have h1 := hx c (by simp [ho, Op.operands])
  have h2 := hx x (by simp [ho, Op.operands])
  have h3 := hx y (by simp [ho, Op.operands])
  rw [hc] at h1
  simp only [VRel] at h1
  refine ⟨if b then a.eval x else a.eval y, ?_, ?_⟩
  · simp [execOp, ho, h1, asBool]
  · cases b
    · exact h3
    · exact h2

theorem sem_not {P : Program} {o : Oper} {ρ n t x} {b : Bool} (ho : o.op = .unOp .not t x) (hc : ρ x = .bool b) : OpSem P o ρ n { v := .bool (!b) } := by
  refine OpSem.value fun m ro H w a hi hx _ => ?_
  have h1 := hx x (by simp [ho, Op.operands])
  rw [hc] at h1
  simp only [VRel] at h1
  exact ⟨.bool (!b), by simp [execOp, ho, h1, Op.unary], by simp [VRel]⟩

theorem sem_neg {P : Program} {o : Oper} {ρ n t x} {k : IntKind} {i : Int} (ho : o.op = .unOp .neg t x) (hc : ρ x = .int k i) : OpSem P o ρ n { v := .int k (k.wrap (0 - i)) } := by
  refine OpSem.value fun m ro H w a hi hx _ => ?_
  have h1 := hx x (by simp [ho, Op.operands])
  rw [hc] at h1
  simp only [VRel] at h1
  exact ⟨.int k (k.wrap (0 - i)), by simp [execOp, ho, h1, Op.unary, Op.intArith], by simp [VRel]⟩

theorem sem_inv {P : Program} {o : Oper} {ρ n t x} {k : IntKind} {i : Int} (ho : o.op = .unOp .xor t x) (hc : ρ x = .int k i) :
    OpSem P o ρ n { v := .int k (k.wrap ((BitVec.ofInt k.bits (if k.signed then -1 else k.max) ^^^ BitVec.ofInt k.bits i).toNat)) } := by
  refine OpSem.value fun m ro H w a hi hx _ => ?_
  have h1 := hx x (by simp [ho, Op.operands])
  rw [hc] at h1
  simp only [VRel] at h1
  refine ⟨_, ?_, vrel_int⟩
  simp only [execOp, ho, h1, Op.unary, Op.intBits, Sem.run_bind, Sem.run_pure, Result.andThen_ok]

theorem dEqI (a b : Int) : decide (a = b) = (a == b) := by by_cases h : a = b <;> simp [h]
theorem dNeI (a b : Int) : decide (a ≠ b) = (a != b) := by by_cases h : a = b <;> simp [h]
theorem dEqS (a b : List UInt8) : decide (a = b) = (a == b) := by by_cases h : a = b <;> simp [h]
theorem dNeS (a b : List UInt8) : decide (a ≠ b) = !(a == b) := by by_cases h : a = b <;> simp [h]
def binI (op : BinOp) (k : IntKind) (a b : Int) : Option AV :=
  match op with
  | .add => some (.int k (k.wrap (a + b)))
  | .sub => some (.int k (k.wrap (a - b)))
  | .mul => some (.int k (k.wrap (a * b)))
  | .eql => some (.bool (decide (a = b)))
  | .neq => some (.bool (decide (a ≠ b)))
  | .lss => some (.bool (decide (a < b)))
  | .leq => some (.bool (decide (a ≤ b)))
  | .gtr => some (.bool (decide (a > b)))
  | .geq => some (.bool (decide (a ≥ b)))
  | .quo => if b = 0 then none else some (.int k (k.wrap (a.tdiv b)))
  | .rem => if b = 0 then none else some (.int k (a.tmod b))
  | .and => some (.int k (k.wrap ((BitVec.ofInt k.bits a &&& BitVec.ofInt k.bits b).toNat)))
  | .or => some (.int k (k.wrap ((BitVec.ofInt k.bits a ||| BitVec.ofInt k.bits b).toNat)))
  | .xor => some (.int k (k.wrap ((BitVec.ofInt k.bits a ^^^ BitVec.ofInt k.bits b).toNat)))
  | .andNot => some (.int k (k.wrap ((BitVec.ofInt k.bits a &&& ~~~ BitVec.ofInt k.bits b).toNat)))
  | _ => none

theorem sem_binI {P : Program} {o : Oper} {ρ n op t x y t'} {k : IntKind} {i j : Int} {v : AV} (ho : o.op = .binOp op t x y t') (h1 : ρ x = .int k i) (h2 : ρ y = .int k j)
    (hv : binI op k i j = some v) : OpSem P o ρ n { v := v } := by
  refine OpSem.value fun m ro H w a hi hx _ => ?_
  have e1 := hx x (by simp [ho, Op.operands])
  have e2 := hx y (by simp [ho, Op.operands])
  rw [h1] at e1
  rw [h2] at e2
  simp only [VRel] at e1 e2
  cases op <;> simp only [binI, Option.some.injEq, reduceCtorEq] at hv
  all_goals first
    | (subst hv
       first
         | (refine ⟨_, ?_, vrel_int⟩
            simp only [execOp, ho, e1, e2, eqGuard_at_int, Sem.run_bind, Sem.run_pure, Result.andThen_ok, binOp_add, binOp_sub, binOp_mul, binOp_and, binOp_or, binOp_xor, binOp_andNot, Op.intArith, Op.intBits]
            done)
         | (refine ⟨_, ?_, vrel_bool⟩
            simp only [execOp, ho, e1, e2, eqGuard_at_int, Sem.run_bind, Sem.run_pure, Result.andThen_ok, binOp_eql, binOp_neq, binOp_lss, binOp_leq, binOp_gtr, binOp_geq, dEqI, dNeI]))
    | (split at hv
       · simp at hv
       · rename_i hne
         simp only [Option.some.injEq] at hv
         subst hv
         refine ⟨_, ?_, vrel_int⟩
         simp only [execOp, ho, e1, e2, eqGuard_at_int, Sem.run_bind, Sem.run_pure, Result.andThen_ok, binOp_quo, binOp_rem, Op.intDiv, hne, if_false])

def binSh (op : BinOp) (k : IntKind) (a b : Int) : Option AV :=
  match op with
  | .shl => if b < 0 then none else some (.int k (k.wrap (a * 2 ^ (min b.toNat k.bits))))
  | .shr => if b < 0 then none else some (.int k (a.fdiv (2 ^ (min b.toNat k.bits))))
  | _ => none

theorem sem_binSh {P : Program} {o : Oper} {ρ n op t x y t'} {k k' : IntKind} {i j : Int} {v : AV} (ho : o.op = .binOp op t x y t') (h1 : ρ x = .int k i) (h2 : ρ y = .int k' j)
    (hv : binSh op k i j = some v) : OpSem P o ρ n { v := v } := by
  refine OpSem.value fun m ro H w a hi hx _ => ?_
  have e1 := hx x (by simp [ho, Op.operands])
  have e2 := hx y (by simp [ho, Op.operands])
  rw [h1] at e1
  rw [h2] at e2
  simp only [VRel] at e1 e2
  cases op <;> simp only [binSh, reduceCtorEq] at hv
  all_goals
    split at hv
    · simp at hv
    · rename_i hne
      simp only [Option.some.injEq] at hv
      subst hv
      refine ⟨_, ?_, vrel_int⟩
      simp only [execOp, ho, e1, e2, eqGuard_at_int, Sem.run_bind, Sem.run_pure, Result.andThen_ok, binOp_shl, binOp_shr, Op.shift, hne, if_false]

def binB (op : BinOp) (a b : Bool) : Option AV :=
  match op with
  | .eql => some (.bool (a == b))
  | .neq => some (.bool (!(a == b)))
  | _ => none

theorem equalIn_bool {P : Program} {t : TypeId} (ht : P.underlying t = some .bool) (d : Nat) (a b : Bool) (w : World) : (Op.equalIn (d + 1) t (.bool a) (.bool b)).run P w = .ok (a == b) w := by
  simp [Op.equalIn, run_underlying' ht]
theorem equal_bool {P : Program} {t : TypeId} (ht : P.underlying t = some .bool) (a b : Bool) (w : World) : (Op.equalIn Op.maxDepth t (.bool a) (.bool b)).run P w = .ok (a == b) w :=
  equalIn_bool ht 9999 a b w

theorem sem_binB {P : Program} {o : Oper} {ρ n op t x y t'} {i j : Bool} {v : AV} (ho : o.op = .binOp op t x y t') (h1 : ρ x = .bool i) (h2 : ρ y = .bool j)
    (ht : P.underlying t = some .bool) (hv : binB op i j = some v) : OpSem P o ρ n { v := v } := by
  refine OpSem.value fun m ro H w a hi hx _ => ?_
  have e1 := hx x (by simp [ho, Op.operands])
  have e2 := hx y (by simp [ho, Op.operands])
  rw [h1] at e1
  rw [h2] at e2
  simp only [VRel] at e1 e2
  cases op <;> simp only [binB, reduceCtorEq, Option.some.injEq] at hv
  all_goals
    subst hv
    refine ⟨_, ?_, vrel_bool⟩
    simp only [execOp, ho, e1, e2, eqGuard_at_bool, Sem.run_bind, Sem.run_pure, Result.andThen_ok, binOp, Op.equal, equal_bool ht]

theorem ba_size (s : List UInt8) : (ByteArray.mk s.toArray).size = s.length := by
  show s.toArray.size = s.length
  simp
theorem ba_toList (s : List UInt8) : (ByteArray.mk s.toArray).toList = s := by rw [ByteArray.toList_eq]

def binS (op : BinOp) (a b : List UInt8) : Option AV :=
  match op with
  | .add => some (.str (a ++ b))
  | .eql => some (.bool (decide (a = b)))
  | .neq => some (.bool (decide (a ≠ b)))
  | .lss => some (.bool (Op.bytesLess a b))
  | .leq => some (.bool (Op.bytesLess a b || a == b))
  | .gtr => some (.bool (!(Op.bytesLess a b || a == b)))
  | .geq => some (.bool (!(Op.bytesLess a b)))
  | _ => none

theorem sem_binS {P : Program} {o : Oper} {ρ n op t x y t'} {i j : List UInt8} {v : AV} (ho : o.op = .binOp op t x y t') (h1 : ρ x = .str i) (h2 : ρ y = .str j)
    (hsz : op = .add → i.length + j.length ≤ 9223372036854775807) (hv : binS op i j = some v) : OpSem P o ρ n { v := v } := by
  refine OpSem.value fun m ro H w a hi hx _ => ?_
  have e1 := hx x (by simp [ho, Op.operands])
  have e2 := hx y (by simp [ho, Op.operands])
  rw [h1] at e1
  rw [h2] at e2
  simp only [VRel] at e1 e2
  cases op <;> simp only [binS, reduceCtorEq, Option.some.injEq] at hv
  all_goals subst hv
  case add =>
    have hs := hsz rfl
    have : ¬ (((ByteArray.mk i.toArray).size + (ByteArray.mk j.toArray).size : Nat) : Int) > IntKind.i64.max := by
      rw [IntKind.max_i64]
      rw [ba_size, ba_size]
      omega
    refine ⟨.string (⟨i.toArray⟩ ++ ⟨j.toArray⟩), ?_, ?_⟩
    · simp only [execOp, ho, e1, e2, eqGuard_at_string, Sem.run_bind, Sem.run_pure, Result.andThen_ok, binOp, Op.stringOp, this, if_false]
    · simp only [VRel]
      congr 1
  all_goals
    refine ⟨_, ?_, vrel_bool⟩
    simp only [execOp, ho, e1, e2, eqGuard_at_string, Sem.run_bind, Sem.run_pure, Result.andThen_ok, binOp, Op.stringOp, ba_toList, dEqS, dNeS]

theorem sem_extract {P : Program} {o : Oper} {ρ n x} {i : Nat} {vs : List AV} {v : AV} (ho : o.op = .extract x i) (h1 : ρ x = .tup vs) (h2 : vs[i]? = some v) : OpSem P o ρ n { v := v } := by
  refine OpSem.value fun m ro H w a hi hx _ => ?_
  have e1 := hx x (by simp [ho, Op.operands])
  rw [h1] at e1
  simp only [VRel] at e1
  obtain ⟨us, e, hs⟩ := e1
  obtain ⟨v', hv', hr⟩ := hs.get h2
  refine ⟨v', ?_, hr⟩
  have : us[i]? = some v' := by simpa using hv'
  simp [execOp, ho, e, Instr.extract, this]

theorem sem_convInt {P : Program} {o : Oper} {ρ n s d x} {k k' : IntKind} {i : Int} (ho : o.op = .convert s d x) (h1 : ρ x = .int k i) (hs : (P.underlying s).isSome = true) (hd : tyInt P d = some k') :
    OpSem P o ρ n { v := .int k' (k'.wrap i) } := by
  refine OpSem.value fun m ro H w a hi hx _ => ?_
  have e1 := hx x (by simp [ho, Op.operands])
  rw [h1] at e1
  simp only [VRel] at e1
  have hu : P.underlying d = some (.int k') := by
    unfold tyInt at hd
    split at hd <;> simp_all
  obtain ⟨sd, hsd⟩ := Option.isSome_iff_exists.1 hs
  refine ⟨.int k' (k'.wrap i), ?_, by simp only [VRel]⟩
  simp only [execOp, ho, e1, convert, Sem.run_bind, run_underlying' hsd, run_underlying' hu, Result.andThen_ok, Conv.intToInt, Sem.run_pure]


theorem addr_add (cb off n : Nat) : (⟨cb, off, none⟩ : Addr).add n = ⟨cb, off + n, none⟩ := Addr.add_lit cb off n

theorem tyFld_run {P : Program} {s : TypeId} {f off : Nat} (h : tyFld P s f = some off) (w : World) (cb o : Nat) :
    (Instr.fieldAt s (.pointer (some ⟨cb, o, none⟩)) f).run P w = .ok (.pointer (some ⟨cb, o + off, none⟩)) w := by
  unfold tyFld at h
  split at h
  · rename_i fields hu
    split at h
    · rename_i x hx
      split at h
      · rename_i i hi
        split at h
        · simp at h
        · rename_i hne
          simp only [Option.some.injEq] at h
          subst h
          simp [Instr.fieldAt, run_underlying' hu, hx, Instr.sureAddr, fieldPlace, run_sizeOf' hi, hne, addr_add]
      · simp at h
    · simp at h
  · simp at h

theorem sem_fieldAddr_ref {P : Program} {o : Oper} {ρ n s x f b g i off} (ho : o.op = .fieldAddr s x f) (h1 : ρ x = .ref b g i) (h : tyFld P s f = some off) :
    OpSem P o ρ n { v := .ref b g (i + off) } := by
  refine OpSem.value fun m ro H w a hi hx _ => ?_
  have e1 := hx x (by simp [ho, Op.operands])
  rw [h1] at e1
  simp only [VRel] at e1
  obtain ⟨cb, base, hm, e⟩ := e1
  refine ⟨.pointer (some ⟨cb, base + (i + off), none⟩), ?_, ?_⟩
  · simp only [execOp, ho, e, Sem.run_bind, tyFld_run h, Result.andThen_ok, Sem.run_pure, Nat.add_assoc]
  · simp only [VRel]; exact ⟨cb, base, hm, rfl⟩

theorem sem_fieldAddr_tref {P : Program} {o : Oper} {ρ n s x f cs off} (ho : o.op = .fieldAddr s x f) (h1 : ρ x = .tref cs) (h : tyFld P s f = some off) :
    OpSem P o ρ n { v := .tref (cs.drop off) } := by
  refine OpSem.value fun m ro H w a hi hx _ => ?_
  have e1 := hx x (by simp [ho, Op.operands])
  rw [h1] at e1
  simp only [VRel] at e1
  obtain ⟨cb, i, e, hc⟩ := e1
  refine ⟨.pointer (some ⟨cb, i + off, none⟩), ?_, ?_⟩
  · simp only [execOp, ho, e, Sem.run_bind, tyFld_run h, Result.andThen_ok, Sem.run_pure]
  · simp only [VRel]; exact ⟨cb, _, rfl, hc.drop off⟩

theorem tyElem_some {P : Program} {t e : TypeId} (h : tyElem P t = some e) : P.underlying t = some (.slice e) := by
  unfold tyElem at h
  split at h <;> simp_all

theorem run_indexAt' {P : Program} {t e : TypeId} {i : TypeInfo} (h : tyElem P t = some e) (hi : P.info? e = some i) (w : World) {cb off n cap : Nat} {k : IntKind} {ix : Int} (h0 : 0 ≤ ix) (h1 : ix < n) :
    (Instr.indexAt t (.slice (some ⟨cb, off, none⟩) n cap) (.int k ix)).run P w = .ok (.pointer (some ⟨cb, off + ix.toNat * i.size, none⟩)) w := by
  have hu := tyElem_some h
  simp [Instr.indexAt, asIntOf, run_underlying' hu, h0, h1, run_sizeOf' hi, addr_add]

theorem sem_indexAddr_sl {P : Program} {o : Oper} {ρ n t x y e k} {N : Nat} {cs kk} {ix : Int} {z by'} (ho : o.op = .indexAddr t x y) (h1 : ρ x = .sl k N cs) (h2 : ρ y = .int kk ix)
    (he : tyElem P t = some e) (hz : tyE P e = some (z, by')) (h0 : 0 ≤ ix) (hl : ix < N) :
    OpSem P o ρ n { v := .tref (cs.drop (ix.toNat * z.length)) } := by
  refine OpSem.value fun m ro H w a hi hx _ => ?_
  obtain ⟨i, zv, hinfo, _, _, _, _, hsz⟩ := tyE_some hz
  have e1 := hx x (by simp [ho, Op.operands])
  have e2 := hx y (by simp [ho, Op.operands])
  rw [h1] at e1
  rw [h2] at e2
  simp only [VRel] at e1 e2
  rcases e1 with ⟨_, _, h, _⟩ | ⟨_, ⟨cb, off, sp⟩, cap, e1, _, _, ⟨h, _⟩ | ⟨hsp, hc⟩⟩
  · omega
  · omega
  · simp only at hsp hc
    subst hsp
    refine ⟨.pointer (some ⟨cb, off + ix.toNat * i.size, none⟩), ?_, ?_⟩
    · simp only [execOp, ho, e1, e2, Sem.run_bind, run_indexAt' he hinfo w h0 hl, Result.andThen_ok, Sem.run_pure]
    · simp only [VRel]
      rw [← hsz]
      exact ⟨cb, _, rfl, hc.drop _⟩

theorem sem_indexAddr_hs {P : Program} {o : Oper} {ρ n t x y e b g i0} {N : Nat} {es kk} {ix : Int} {z by'} (ho : o.op = .indexAddr t x y) (h1 : ρ x = .hs b g i0 N es) (h2 : ρ y = .int kk ix)
    (he : tyElem P t = some e) (hz : tyE P e = some (z, by')) (h0 : 0 ≤ ix) (hl : ix < N) :
    OpSem P o ρ n { v := .ref b g (i0 + ix.toNat * z.length) } := by
  refine OpSem.value fun m ro H w a hi hx _ => ?_
  obtain ⟨i, zv, hinfo, _, _, _, _, hsz⟩ := tyE_some hz
  have e1 := hx x (by simp [ho, Op.operands])
  have e2 := hx y (by simp [ho, Op.operands])
  rw [h1] at e1
  rw [h2] at e2
  simp only [VRel] at e1 e2
  obtain ⟨loc, hm, hh⟩ := e1
  cases loc with
  | void =>
    simp only [HsRel] at hh
    omega
  | «at» cb base =>
    simp only [HsRel] at hh
    obtain ⟨cap, e1, _, _⟩ := hh
    refine ⟨.pointer (some ⟨cb, base + i0 + ix.toNat * i.size, none⟩), ?_, ?_⟩
    · simp only [execOp, ho, e1, e2, Sem.run_bind, run_indexAt' he hinfo w h0 hl, Result.andThen_ok, Sem.run_pure]
    · simp only [VRel]
      rw [← hsz]
      exact ⟨cb, base, hm, by simp [Nat.add_assoc]⟩

theorem tyArr_some {P : Program} {t : TypeId} {N es : Nat} (h : tyArr P t = some (N, es)) : ∃ e i, P.underlying t = some (.array N e) ∧ P.info? e = some i ∧ i.size = es := by
  unfold tyArr at h
  split at h
  · rename_i n e hu
    cases hi : P.info? e with
    | none => simp [hi] at h
    | some i =>
      simp [hi] at h
      obtain ⟨rfl, rfl⟩ := h
      exact ⟨e, i, hu, hi, rfl⟩
  · simp at h

theorem run_indexAt_arr {P : Program} {t : TypeId} {N es : Nat} (h : tyArr P t = some (N, es)) (w : World) {cb off : Nat} {k : IntKind} {ix : Int} (h0 : 0 ≤ ix) (h1 : ix < N) :
    (Instr.indexAt t (.pointer (some ⟨cb, off, none⟩)) (.int k ix)).run P w = .ok (.pointer (some ⟨cb, off + ix.toNat * es, none⟩)) w := by
  obtain ⟨e, i, hu, hi, rfl⟩ := tyArr_some h
  simp [Instr.indexAt, asIntOf, run_underlying' hu, Instr.sureAddr, h0, h1, run_sizeOf' hi, addr_add]

theorem sem_indexAddr_arr {P : Program} {o : Oper} {ρ n t x y b g i0} {N : Nat} {es kk} {ix : Int} (ho : o.op = .indexAddr t x y) (h1 : ρ x = .ref b g i0) (h2 : ρ y = .int kk ix)
    (he : tyArr P t = some (N, es)) (h0 : 0 ≤ ix) (hl : ix < N) : OpSem P o ρ n { v := .ref b g (i0 + ix.toNat * es) } := by
  refine OpSem.value fun m ro H w a hi hx _ => ?_
  have e1 := hx x (by simp [ho, Op.operands])
  have e2 := hx y (by simp [ho, Op.operands])
  rw [h1] at e1
  rw [h2] at e2
  simp only [VRel] at e1 e2
  obtain ⟨cb, base, hm, e1⟩ := e1
  refine ⟨.pointer (some ⟨cb, base + i0 + ix.toNat * es, none⟩), ?_, ?_⟩
  · simp only [execOp, ho, e1, e2, Sem.run_bind, run_indexAt_arr he w h0 hl, Result.andThen_ok, Sem.run_pure]
  · simp only [VRel]
    exact ⟨cb, base, hm, by simp [Nat.add_assoc]⟩

theorem sem_indexAddr_tarr {P : Program} {o : Oper} {ρ n t x y cs} {N : Nat} {es kk} {ix : Int} (ho : o.op = .indexAddr t x y) (h1 : ρ x = .tref cs) (h2 : ρ y = .int kk ix)
    (he : tyArr P t = some (N, es)) (h0 : 0 ≤ ix) (hl : ix < N) : OpSem P o ρ n { v := .tref (cs.drop (ix.toNat * es)) } := by
  refine OpSem.value fun m ro H w a hi hx _ => ?_
  have e1 := hx x (by simp [ho, Op.operands])
  have e2 := hx y (by simp [ho, Op.operands])
  rw [h1] at e1
  rw [h2] at e2
  simp only [VRel] at e1 e2
  obtain ⟨cb, off, e1, hc⟩ := e1
  refine ⟨.pointer (some ⟨cb, off + ix.toNat * es, none⟩), ?_, ?_⟩
  · simp only [execOp, ho, e1, e2, Sem.run_bind, run_indexAt_arr he w h0 hl, Result.andThen_ok, Sem.run_pure]
  · simp only [VRel]
    exact ⟨cb, _, rfl, hc.drop _⟩


def isSlice (P : Program) (t : TypeId) : Bool := (tyElem P t).isSome
def isStr (P : Program) (t : TypeId) : Bool := match P.underlying t with | some .string => true | _ => false

theorem isStr_some {P : Program} {t : TypeId} (h : isStr P t = true) : P.underlying t = some .string := by
  unfold isStr at h
  split at h <;> simp_all

theorem sem_len_sl {P : Program} {o : Oper} {ρ n c x k} {N : Nat} {cs} (ho : o.op = .call c) (hc : c.callee = .builtin .len) (ha : c.args = #[x]) (t : TypeId) (ht : c.argTypes[0]? = some t) (hs : isSlice P t = true)
    (h1 : ρ x = .sl k N cs) : OpSem P o ρ n { v := .int .i64 N } := by
  refine OpSem.value fun m ro H w a hi hx _ => ?_
  have e1 := hx x (by simp [ho, Op.operands, Call.operands, hc, ha])
  rw [h1] at e1
  simp only [VRel] at e1
  obtain ⟨e, he⟩ := Option.isSome_iff_exists.1 hs
  have hu := tyElem_some he
  rcases e1 with ⟨_, e1, hN, _⟩ | ⟨_, ad, cap, e1, _, _, _⟩
  · refine ⟨.int .i64 N, ?_, by simp only [VRel]⟩
    simp [execOp, ho, resolve, hc, ha, invoke, builtin, Builtin.len_, ht, e1, run_underlying' hu, goInt, hN]
  · refine ⟨.int .i64 N, ?_, by simp only [VRel]⟩
    simp [execOp, ho, resolve, hc, ha, invoke, builtin, Builtin.len_, ht, e1, run_underlying' hu, goInt]

theorem sem_len_hs {P : Program} {o : Oper} {ρ n c x b g i} {N : Nat} {es} (ho : o.op = .call c) (hc : c.callee = .builtin .len) (ha : c.args = #[x]) (t : TypeId) (ht : c.argTypes[0]? = some t) (hs : isSlice P t = true)
    (h1 : ρ x = .hs b g i N es) : OpSem P o ρ n { v := .int .i64 N } := by
  refine OpSem.value fun m ro H w a hi hx _ => ?_
  have e1 := hx x (by simp [ho, Op.operands, Call.operands, hc, ha])
  rw [h1] at e1
  simp only [VRel] at e1
  obtain ⟨e, he⟩ := Option.isSome_iff_exists.1 hs
  have hu := tyElem_some he
  obtain ⟨loc, hm, hh⟩ := e1
  refine ⟨.int .i64 N, ?_, by simp only [VRel]⟩
  cases loc with
  | void =>
    simp only [HsRel] at hh
    obtain ⟨e1, hN, _⟩ := hh
    simp [execOp, ho, resolve, hc, ha, invoke, builtin, Builtin.len_, ht, e1, run_underlying' hu, goInt, hN]
  | «at» cb base =>
    simp only [HsRel] at hh
    obtain ⟨cap, e1, _⟩ := hh
    simp [execOp, ho, resolve, hc, ha, invoke, builtin, Builtin.len_, ht, e1, run_underlying' hu, goInt]

theorem sem_len_str {P : Program} {o : Oper} {ρ n c x} {s : List UInt8} (ho : o.op = .call c) (hc : c.callee = .builtin .len) (ha : c.args = #[x]) (t : TypeId) (ht : c.argTypes[0]? = some t) (hs : isStr P t = true)
    (h1 : ρ x = .str s) : OpSem P o ρ n { v := .int .i64 s.length } := by
  refine OpSem.value fun m ro H w a hi hx _ => ?_
  have e1 := hx x (by simp [ho, Op.operands, Call.operands, hc, ha])
  rw [h1] at e1
  simp only [VRel] at e1
  have hu := isStr_some hs
  refine ⟨.int .i64 s.length, ?_, by simp only [VRel]⟩
  simp [execOp, ho, resolve, hc, ha, invoke, builtin, Builtin.len_, ht, e1, run_underlying' hu, goInt, ba_size]

theorem sem_index_str {P : Program} {o : Oper} {ρ n t x y} {s : List UInt8} {k} {ix : Int} {c} (ho : o.op = .index t x y) (h1 : ρ x = .str s) (h2 : ρ y = .int k ix) (ht : isStr P t = true)
    (h0 : 0 ≤ ix) (hc : s[ix.toNat]? = some c) : OpSem P o ρ n { v := .int .u8 c.toNat } := by
  refine OpSem.value fun m ro H w a hi hx _ => ?_
  have e1 := hx x (by simp [ho, Op.operands])
  have e2 := hx y (by simp [ho, Op.operands])
  rw [h1] at e1
  rw [h2] at e2
  simp only [VRel] at e1 e2
  have hu := isStr_some ht
  refine ⟨.int .u8 c.toNat, ?_, by simp only [VRel]⟩
  have hb : (ByteArray.mk s.toArray)[ix.toNat]? = some c := by
    obtain ⟨hlt, hv⟩ := List.getElem?_eq_some_iff.1 hc
    have hl : ix.toNat < (ByteArray.mk s.toArray).size := by rw [ba_size]; exact hlt
    rw [getElem?_pos (ByteArray.mk s.toArray) ix.toNat hl]
    simp only [Option.some.injEq]
    show s.toArray[ix.toNat] = c
    simpa using hv
  simp [execOp, ho, e1, e2, Instr.index, asIntOf, run_underlying' hu, h0, hb]

end Tab
