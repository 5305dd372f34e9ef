/- Lemmas for this claim: part 5. No condition. -/
import Derived.Test.YtiflemdfnjgobaaDoorZ4
import Derived.Laws.BytesString
set_option linter.unusedVariables false
set_option linter.unusedSimpArgs false
set_option linter.unusedSectionVars false
/- Bytes as a text. -/
namespace Tab
open Go
variable [Globs]

def tyBytes (P : Program) (s d : TypeId) : Option TypeId := match P.underlying s, P.underlying d with
  | some (.slice e), some .string => match P.underlying e with
    | some (.int .u8) => some e
    | _ => none
  | _, _ => none
theorem tyBytes_some {P : Program} {s d e : TypeId} (h : tyBytes P s d = some e) : P.underlying s = some (.slice e) ∧ P.underlying e = some (.int .u8) ∧ P.underlying d = some .string := by
  unfold tyBytes at h
  split at h
  · split at h
    · rename_i h1 h2 _ h3; cases h; exact ⟨h1, h3, h2⟩
    · cases h
  · cases h
def strOf : List AV → Option (List UInt8)
  | [] => some []
  | .int .u8 n :: l => (strOf l).map (UInt8.ofNat n.toNat :: ·)
  | _ => none
theorem strOf_vs {m : Mp} {ro : Nat → Prop} {w : World} : ∀ {xs : List AV} {vs : List Value} {t : List UInt8}, VsRel m ro w xs vs → strOf xs = some t → ∃ ns : List Int, vs = ns.map (Value.int .u8) ∧ t = ns.map fun n => UInt8.ofNat n.toNat
  | [], vs, t, h, hs => by
    simp only [VsRel] at h
    subst h
    simp only [strOf, Option.some.injEq] at hs
    subst hs
    exact ⟨[], rfl, rfl⟩
  | a :: xs, vs, t, h, hs => by
    simp only [VsRel] at h
    obtain ⟨v, vs', rfl, h1, h2⟩ := h
    unfold strOf at hs
    split at hs
    · rename_i e; cases e
    · rename_i n l e
      cases e
      obtain ⟨t', ht', rfl⟩ := Option.map_eq_some_iff.1 hs
      obtain ⟨ns, e1, e2⟩ := strOf_vs h2 ht'
      simp only [VRel] at h1
      subst h1
      exact ⟨n :: ns, by rw [e1]; rfl, by rw [e2]; rfl⟩
    · cases hs
theorem fold_push (ns : List Int) : ∀ (s : ByteArray), ns.foldl (fun r n => r.push (UInt8.ofNat n.toNat)) s = ⟨s.data ++ (ns.map fun n => UInt8.ofNat n.toNat).toArray⟩ := by
  induction ns with
  | nil => intro s; simp
  | cons n ns ih =>
    intro s
    rw [List.foldl_cons, ih]
    simp [ByteArray.push]
def isSl : AV → Bool
  | .sl _ _ _ => true
  | .hs _ _ _ _ _ => true
  | _ => false
theorem sem_convStr {P : Program} {o : Oper} {ρ n s d x} {e : TypeId} {nd : List (Nat × Blk)} {k : Nat} {xs : List AV} {t : List UInt8} (ho : o.op = .convert s d x) (hsl : isSl (ρ x) = true) (ht : tyBytes P s d = some e) (hx : XSem P (ρ x) 1 nd k xs) (hs : strOf xs = some t) :
    OpSem P o ρ n { v := .str t, need := nd } := by
  obtain ⟨t1, t2, t3⟩ := tyBytes_some ht
  refine OpSem.value fun m ro H w a hi hxx hn => ?_
  have e1 := hxx x (by simp [ho, Op.operands])
  obtain ⟨vs, h1, _, h3⟩ := hx m ro H w _ hi e1 hn
  obtain ⟨hl, hf⟩ := h3 w rfl
  obtain ⟨ns, rfl, rfl⟩ := strOf_vs h1 hs
  have hv : ∃ b l c, a.eval x = .slice b l c := by
    cases hr : ρ x with
    | sl kd N cs =>
      rw [hr] at e1
      simp only [VRel] at e1
      rcases e1 with ⟨_, h, _⟩ | ⟨_, ad, cap, h, _⟩
      · exact ⟨_, _, _, h⟩
      · exact ⟨_, _, _, h⟩
    | hs b g o N es =>
      rw [hr] at e1
      simp only [VRel] at e1
      obtain ⟨loc, _, hh⟩ := e1
      cases loc with
      | void => simp only [HsRel] at hh; exact ⟨_, _, _, hh.1⟩
      | «at» cb base => simp only [HsRel] at hh; obtain ⟨cap, h, _⟩ := hh; exact ⟨_, _, _, h⟩
    | _ => rw [hr] at hsl; cases hsl
  obtain ⟨b, l, c, hv⟩ := hv
  refine ⟨.string ⟨(ns.map fun n => UInt8.ofNat n.toNat).toArray⟩, ?_, by simp only [VRel]⟩
  have hcv := run_convert_bytes_string (P := P) w s d e b l c t1 t2 t3
  rw [hv] at hl hf
  have hb : (Conv.bytesToString (.slice b l c)).run P w = .ok (.string ⟨(ns.map fun n => UInt8.ofNat n.toNat).toArray⟩) w := by
    cases b with
    | none =>
      have : ns = [] := by
        simp only [Builtin.firstCells, Sem.run_pure, Result.ok.injEq] at hf
        have := hf.1
        simpa using this.symm
      subst this
      simp [Conv.bytesToString, Sem.run_pure]
      rfl
    | some ad =>
      have hk : l = k := by
        have hl' := hl
        simp only [Builtin.lenOf, Sem.run_pure, Result.ok.injEq, true_and, and_true] at hl'
        exact hl'
      subst hk
      simp only [Builtin.firstCells, Nat.mul_one] at hf
      have e0 : (ByteArray.empty.data ++ (ns.map fun n => UInt8.ofNat n.toNat).toArray) = (ns.map fun n => UInt8.ofNat n.toNat).toArray := by
        rw [show ByteArray.empty.data = #[] from rfl]
        exact Array.empty_append
      rw [run_bytesToString w ad l c ns hf, fold_push, e0]
  have hcb := hcv.trans hb
  clear hcv hb hl hf h1 hxx hx hn hi e1
  rw [execOp, ho]
  dsimp only
  rw [hv, Sem.run_bind, hcb]
  rfl

end Tab

/- A slice of an array. -/
namespace Tab
open Go
variable [Globs]

theorem Lay.size {m : Mp} {ro : Nat → Prop} {w : World} {cs : List AV} {c : Array Value} {base : Nat} (h : Lay m ro w cs c base) (h0 : 0 < cs.length) : base + cs.length ≤ c.size := by
  obtain ⟨v, hv, _⟩ := h (cs.length - 1) (cs[cs.length - 1]'(by omega)) (List.getElem?_eq_getElem (by omega))
  have := (Array.getElem?_eq_some_iff.1 hv).1
  omega
theorem sem_slice_arr {P : Program} {o : Oper} {ρ n t x b g i} {N es : Nat} {cs : List AV} {lo hi : Option Operand} {rl rh : Option Int} (ho : o.op = .slice t x lo hi none) (h1 : ρ x = .ref b g i)
    (hlo : optI ρ lo = some rl) (hhi : optI ρ hi = some rh) (ha : tyArr P t = some (N, es)) (hc0 : 0 < cs.length) (hfit : i + N * es ≤ cs.length)
    (h0 : 0 ≤ rl.getD 0) (h2 : rl.getD 0 ≤ rh.getD (N : Int)) (h3 : rh.getD (N : Int) ≤ N) (h4 : rl.getD 0 = 0 ∨ rl.getD 0 < rh.getD (N : Int)) :
    OpSem P o ρ n { v := .hs b g (i + (rl.getD 0).toNat * es) ((rh.getD (N : Int)).toNat - (rl.getD 0).toNat) es, need := [(b, .cells g cs)] } := by
  obtain ⟨e, ie, hu, hinfo, hes⟩ := tyArr_some ha
  subst hes
  refine OpSem.value fun m ro H w a hi' hx hn => ?_
  obtain ⟨m1, m2, m3, _⟩ := slice_operands ho
  have e1 := hx x m1
  rw [h1] at e1
  simp only [VRel] at e1
  have c1 := lo_of (optI_rel (a := a) hlo (fun y h => hx y (m2 y h)))
  have c2 := hi_of (N := N) (optI_rel (a := a) hhi (fun y h => hx y (m3 y h)))
  obtain ⟨cb, base, hm, e1⟩ := e1
  have hblk := hi'.blk b _ (hn (b, .cells g cs) (by simp))
  have hb2 := hblk _ hm
  obtain ⟨c, t', hc, hlay⟩ := hb2
  have hsz := hlay.size hc0
  have hb := run_sliceBounds (P := P) (w := w) (b := false) (len := N) (cap := N) c1 c2 h0 h2 (by omega)
  have hex : (execOp a.eval o).run P w = .ok (.value (.slice (some (if N = (rl.getD 0).toNat then ⟨cb, base + i, none⟩ else ⟨cb, base + i + (rl.getD 0).toNat * ie.size, none⟩)) ((rh.getD (N : Int)).toNat - (rl.getD 0).toNat) (N - (rl.getD 0).toNat))) w := by
    simp only [execOp, ho, e1, Option.map_none, Sem.run_bind, Sem.run_pure, Instr.sliceAt, run_underlying' hu, Result.andThen_ok, Instr.sureAddr, hb, run_sizeOf' hinfo, addr_add]
  refine ⟨_, hex, ?_⟩
  simp only [VRel]
  refine ⟨.at cb base, hm, N - (rl.getD 0).toNat, ?_, by omega, c, t', (0, 0), hc, ?_⟩
  · by_cases hcl : N = (rl.getD 0).toNat
    · have : (rl.getD 0).toNat = 0 := by omega
      rw [this] at hcl ⊢
      simp [hcl]
    · simp [hcl, Nat.add_assoc]
  · have hl : (rl.getD 0).toNat ≤ N := by omega
    have : (rl.getD 0).toNat * ie.size + (N - (rl.getD 0).toNat) * ie.size = N * ie.size := by rw [← Nat.add_mul]; congr 1; omega
    omega

end Tab

/- The verification condition of one operation, computed; and that it is sound. -/
namespace Tab
open Go
variable [Globs]


def optE {α : Type} (o : Option α) (A : α → Prop) : Prop := match o with | some c => A c | none => False
def guardE (p : Prop) [Decidable p] (A : Prop) : Prop := if p then A else False
def decB (b : Bool) (A B : Prop) : Prop := match b with | true => A | false => B

structure OptX {α : Type} (o : Option α) (A : α → Prop) : Prop where
  out : optE o A
def optB {α : Type} (b : Bool) (o : Option α) (A : α → Prop) : Prop := match b with | true => optE o A | false => OptX o A
theorem optB_out {α : Type} {b : Bool} {o : Option α} {A : α → Prop} (h : optB b o A) : optE o A := by
  cases b
  · exact h.out
  · exact h

theorem optE_of {α : Type} {o : Option α} {A : α → Prop} {c : α} (h : o = some c) (k : A c) : optE o A := by subst h; exact k
theorem optX_of {α : Type} {o : Option α} {A : α → Prop} {c : α} (h : o = some c) (k : A c) : OptX o A := ⟨optE_of h k⟩
theorem guardE_of {p : Prop} [Decidable p] {A : Prop} (h : p) (k : A) : guardE p A := by unfold guardE; rw [if_pos h]; exact k
theorem decB_split {b : Bool} {A B : Prop} (h : b = true → A) (k : b = false → B) : decB b A B := by cases b; exact k rfl; exact h rfl
theorem decB_true {b : Bool} {A B : Prop} (h : b = true) (k : A) : decB b A B := by subst h; exact k
theorem decB_false {b : Bool} {A B : Prop} (h : b = false) (k : B) : decB b A B := by subst h; exact k
theorem optE_some {α : Type} {o : Option α} {A : α → Prop} (h : optE o A) : ∃ c, o = some c ∧ A c := by
  unfold optE at h
  split at h
  · exact ⟨_, rfl, h⟩
  · exact h.elim
theorem guardE_and {p : Prop} [Decidable p] {A : Prop} (h : guardE p A) : p ∧ A := by
  unfold guardE at h
  split at h
  · exact ⟨‹p›, h⟩
  · exact h.elim
theorem decB_or {b : Bool} {A B : Prop} (h : decB b A B) : (b = true ∧ A) ∨ (b = false ∧ B) := by
  cases b
  · exact .inr ⟨rfl, h⟩
  · exact .inl ⟨rfl, h⟩

def tyBool (P : Program) (t : TypeId) : Bool := match P.underlying t with | some .bool => true | _ => false
theorem tyBool_some {P : Program} {t : TypeId} (h : tyBool P t = true) : P.underlying t = some .bool := by
  unfold tyBool at h
  split at h <;> simp_all


def vcLoad (P : Program) (t : TypeId) (a : AV) (H : List Blk) (k : Eff → Prop) : Prop :=
  match a with
  | .tref cs => optE (tyLd P t) fun
    | none => optE cs[0]? fun c => k { v := c }
    | some n => guardE (n ≤ cs.length) (k { v := .agg (cs.take n) })
  | .ref b g i => optE H[b]? fun blk => optE blk.rd fun r => guardE (r.1 = g) (optE (tyLd P t) fun
    | none => optE r.2[i]? fun c => k { v := c, need := [(b, blk)] }
    | some n => guardE (i + n ≤ r.2.length) (k { v := .agg ((r.2.drop i).take n), need := [(b, blk)] }))
  | _ => False

def Blk.cellsOf : Blk → Option (Nat × List AV)
  | .cells g cs => some (g, cs)
  | _ => none

def vcStore (P : Program) (t : TypeId) (a v : AV) (H : List Blk) (k : Eff → Prop) : Prop :=
  match a with
  | .ref b g i => optE H[b]? fun blk => optE blk.cellsOf fun r => guardE (r.1 = g) (optE v.cells fun xs => optE (tySz P t) fun n =>
      guardE (xs.length = n ∧ 0 < n ∧ i + n ≤ r.2.length) (k { v := .junk, need := [(b, .cells g r.2)], upd := some (b, .cells g (over r.2 i xs)) }))
  | _ => False

def vcIndexAddr (P : Program) (t : TypeId) (a ix : AV) (k : Eff → Prop) : Prop :=
  match ix with
  | .int _ i => match a with
    | .sl _ N cs => optE (tyElem P t) fun e => optE (tyE P e) fun z => guardE (0 ≤ i ∧ i < N) (k { v := .tref (cs.drop (i.toNat * z.1.length)) })
    | .hs b g o N _ => optE (tyElem P t) fun e => optE (tyE P e) fun z => guardE (0 ≤ i ∧ i < N) (k { v := .ref b g (o + i.toNat * z.1.length) })
    | .ref b g o => optE (tyArr P t) fun r => guardE (0 ≤ i ∧ i < r.1) (k { v := .ref b g (o + i.toNat * r.2) })
    | .tref cs => optE (tyArr P t) fun r => guardE (0 ≤ i ∧ i < r.1) (k { v := .tref (cs.drop (i.toNat * r.2)) })
    | _ => False
  | _ => False

def fnNil : AV → Option Bool
  | .nilf => some true
  | .fn _ _ _ => some false
  | _ => none
def ptNil : AV → Option Bool
  | .nilp => some true
  | .ref _ _ _ => some false
  | .tref _ => some false
  | _ => none
def vcEqNil (op : BinOp) (ty : Bool) (r : Option Bool) (k : Eff → Prop) : Prop :=
  match op with
  | .eql => guardE (ty = true) (optE r fun r => k { v := .bool r })
  | .neq => guardE (ty = true) (optE r fun r => k { v := .bool (!r) })
  | _ => False

def vcBin (P : Program) (op : BinOp) (t : TypeId) (x y : AV) (k : Eff → Prop) : Prop :=
  match x, y with
  | .int ki a, .int kj b => match op with
    | .shl => optE (binSh .shl ki a b) fun v => k { v := v }
    | .shr => optE (binSh .shr ki a b) fun v => k { v := v }
    | op => guardE (ki = kj) (optE (binI op ki a b) fun v => k { v := v })
  | .str a, .str b => match op with
    | .add => guardE (a.length + b.length ≤ 9223372036854775807) (k { v := .str (a ++ b) })
    | op => optE (binS op a b) fun v => k { v := v }
  | .bool a, .bool b => guardE (tyBool P t = true) (optE (binB op a b) fun v => k { v := v })
  | .sl kd N _, .sl .nil 0 [] => match op with
    | .eql => guardE (isSlice P t = true) (optE (kd.isNil N) fun r => k { v := .bool r })
    | _ => False
  | .agg a, .agg b => match op with
    | .eql => ∃ r, EqlE P t a b r ∧ k { v := .bool r }
    | .neq => ∃ r, EqlE P t a b r ∧ k { v := .bool (!r) }
    | _ => False
  | x, .nilf => vcEqNil op (isFunTy P t) (fnNil x) k
  | x, .nilp => vcEqNil op (isPtrTy P t) (ptNil x) k
  | _, _ => False

def vcUn (op : UnOp) (x : AV) (k : Eff → Prop) : Prop :=
  match op, x with
  | .not, .bool b => k { v := .bool (!b) }
  | .neg, .int kd i => k { v := .int kd (kd.wrap (0 - i)) }
  | .xor, .int kd i => k { v := .int kd (kd.wrap ((BitVec.ofInt kd.bits (if kd.signed then -1 else kd.max) ^^^ BitVec.ofInt kd.bits i).toNat)) }
  | _, _ => False

def vcLen (P : Program) (t : TypeId) (x : AV) (H : List Blk) (k : Eff → Prop) : Prop :=
  match x with
  | .sl _ N _ => guardE (isSlice P t = true) (k { v := .int .i64 N })
  | .hs _ _ _ N _ => guardE (isSlice P t = true) (k { v := .int .i64 N })
  | .str s => guardE (isStr P t = true) (k { v := .int .i64 s.length })
  | .mp b => match H[b]? with
    | some (.dict es) => guardE (isMap P t = true) (k { v := .int .i64 es.length, need := [(b, .dict es)] })
    | _ => False
  | _ => False

def vcLook (P : Program) (t : TypeId) (x y : AV) (ok : Bool) (H : List Blk) (k : Eff → Prop) : Prop :=
  match x with
  | .mp b => match H[b]? with
    | some (.dict es) => ∃ e, LookE P t ok y b es e ∧ k e
    | _ => False
  | _ => False

def vcPut (P : Program) (t : TypeId) (x y z : AV) (H : List Blk) (k : Eff → Prop) : Prop :=
  match x with
  | .mp b => match H[b]? with
    | some (.dict es) => ∃ e, PutE P t y z b es e ∧ k e
    | _ => False
  | _ => False

def vcApp (x : AV) (es : Nat) (H : List Blk) (k : List (Nat × Blk) → Nat → List AV → Prop) : Prop :=
  match x with
  | .sl _ N cs => guardE (cs.length = N * es) (k [] N cs)
  | .hs b g o N es' => guardE (es' = es) (optE H[b]? fun blk => optE blk.rd fun r => guardE (r.1 = g ∧ o + N * es ≤ r.2.length) (k [(b, blk)] N ((r.2.drop o).take (N * es))))
  | .str s => guardE (es = 1) (k [] s.length (bytesA s))
  | _ => False

def vcConv (P : Program) (s d : TypeId) (a : AV) (H : List Blk) (k : Eff → Prop) : Prop :=
  guardE (isSl a = true) (optE (tyBytes P s d) fun _ => vcApp a 1 H fun nd _ xs => optE (strOf xs) fun t => k { v := .str t, need := nd })

def vcAppend (P : Program) (t xt : TypeId) (s x : AV) (H : List Blk) (k : Eff → Prop) : Prop :=
  guardE (tyNoInt P xt = true) (optE (tyElem P t) fun e => optE (tyE P e) fun z => match s with
    | .hs b g o N es => guardE (z.1.length = es) (optE H[b]? fun blk => optE blk.cellsOf fun r => guardE (r.1 = g ∧ o + N * es ≤ r.2.length)
        (vcApp x es H fun nd m xs => guardE (N + m ≤ 9223372036854775807 ∧ (N + m) * z.2 ≤ 140737488355328)
          (k { v := .hs b (g + 1) 0 (N + m) es, need := (b, .cells g r.2) :: nd, upd := some (b, .cells (g + 1) ((r.2.drop o).take (N * es) ++ xs)) })))
    | .sl .nil 0 [] => vcApp x z.1.length H fun nd m xs => guardE (m ≤ 9223372036854775807 ∧ m * z.2 ≤ 140737488355328)
          (k { v := .hs H.length 0 0 m z.1.length, need := nd, new := some (.cells 0 xs) })
    | _ => False)

def vcSlice (P : Program) (t : TypeId) (x : AV) (lo hi : Option Int) (k : Eff → Prop) : Prop :=
  match x with
  | .sl kd N cs => optE (tyElem P t) fun e => optE (tyE P e) fun z => guardE (0 ≤ lo.getD 0 ∧ lo.getD 0 ≤ hi.getD (N : Int) ∧ hi.getD (N : Int) ≤ N)
      (k { v := .sl kd.cut ((hi.getD (N : Int)).toNat - (lo.getD 0).toNat) ((cs.drop ((lo.getD 0).toNat * z.1.length)).take (((hi.getD (N : Int)).toNat - (lo.getD 0).toNat) * z.1.length)) })
  | .hs b g o N es => optE (tyElem P t) fun e => optE (tyE P e) fun z => guardE (z.1.length = es) (guardE ((0 ≤ lo.getD 0 ∧ lo.getD 0 ≤ hi.getD (N : Int) ∧ hi.getD (N : Int) ≤ N) ∧ (lo.getD 0 = 0 ∨ lo.getD 0 < hi.getD (N : Int)))
      (k { v := .hs b g (o + (lo.getD 0).toNat * es) ((hi.getD (N : Int)).toNat - (lo.getD 0).toNat) es }))
  | .str s => guardE (isStr P t = true) (guardE (0 ≤ lo.getD 0 ∧ lo.getD 0 ≤ hi.getD (s.length : Int) ∧ hi.getD (s.length : Int) ≤ s.length)
      (k { v := .str ((s.drop (lo.getD 0).toNat).take ((hi.getD (s.length : Int)).toNat - (lo.getD 0).toNat)) }))
  | _ => False

def vcSliceA (P : Program) (t : TypeId) (x : AV) (lo hi : Option Int) (H : List Blk) (k : Eff → Prop) : Prop :=
  match x with
  | .ref b g i => optE (tyArr P t) fun r => optE H[b]? fun blk => optE blk.cellsOf fun q => guardE (q.1 = g ∧ 0 < q.2.length ∧ i + r.1 * r.2 ≤ q.2.length)
      (guardE ((0 ≤ lo.getD 0 ∧ lo.getD 0 ≤ hi.getD (r.1 : Int) ∧ hi.getD (r.1 : Int) ≤ r.1) ∧ (lo.getD 0 = 0 ∨ lo.getD 0 < hi.getD (r.1 : Int)))
        (k { v := .hs b g (i + (lo.getD 0).toNat * r.2) ((hi.getD (r.1 : Int)).toNat - (lo.getD 0).toNat) r.2, need := [(b, .cells g q.2)] }))
  | x => vcSlice P t x lo hi k

def vcMake (P : Program) (t : TypeId) (x y : AV) (H : List Blk) (k : Eff → Prop) : Prop :=
  match x, y with
  | .int _ l, .int _ c => optE (tyElem P t) fun e => optE (tyE P e) fun z => guardE (0 ≤ l ∧ l ≤ c ∧ (z.2 : Int) * c ≤ 281474976710656 ∧ c ≤ 9223372036854775807)
      (k { v := .hs H.length 0 0 l.toNat z.1.length, new := some (.cells 0 (reps z.1 c.toNat)) })
  | _, _ => False

def vcNext (x : AV) (H : List Blk) (k : Eff → Prop) : Prop :=
  match x with
  | .ref b 0 0 => match H[b]? with
    | some (.siter s pos) => decB (decide (pos < s.length))
        (k { v := .tup [.bool true, .int .i64 pos, .int .i32 (dec s pos).1], need := [(b, .siter s pos)], upd := some (b, .siter s (pos + (dec s pos).2)) })
        (k { v := .tup [.bool false], need := [(b, .siter s pos)] })
    | _ => False
  | _ => False

def vcClear (P : Program) (t : TypeId) (x : AV) (H : List Blk) (k : Eff → Prop) : Prop :=
  match x with
  | .hs b g o N es => optE (tyElem P t) fun e => optE (tyE P e) fun z => guardE (z.1.length = es) (optE H[b]? fun blk => optE blk.cellsOf fun r => guardE (r.1 = g ∧ o + N * es ≤ r.2.length)
      (k { v := .tup [], need := [(b, .cells g r.2)], upd := some (b, .cells g (over r.2 o (reps z.1 N))) }))
  | _ => False

def vcBuiltin (P : Program) (b : Builtin) (ts : List TypeId) (args : List AV) (H : List Blk) (k : Eff → Prop) : Prop :=
  match b, ts, args with
  | .len, [t], [x] => vcLen P t x H k
  | .append, [t, xt], [s, x] => vcAppend P t xt s x H k
  | .max, _, [.int ki i, .int _ j] => k { v := .int ki (if j > i then j else i) }
  | .min, _, [.int ki i, .int _ j] => k { v := .int ki (if j < i then j else i) }
  | .clear, [t], [x] => vcClear P t x H k
  | _, _, _ => False

def vcOp (P : Program) (o : Op) (ρ : Operand → AV) (H : List Blk) (k : Eff → Prop) : Prop :=
  match o with
  | .move x => k { v := ρ x }
  | .assign x => k { v := ρ x }
  | .pick c x y => match ρ c with | .bool b => decB b (k { v := ρ x }) (k { v := ρ y }) | _ => False
  | .alloc t => optE (tyE P t) fun z => k { v := .ref H.length 0 0, new := some (.cells 0 z.1) }
  | .box _ x => optE (ρ x).cells fun cs => k { v := .ref H.length 0 0, new := some (.cells 0 cs) }
  | .build t parts => optE (tyPl P t) fun r => optE (afill (r.2[·]?) r.1 (evParts ρ parts.toList)) fun out => k { v := .agg out }
  | .buildSlice t N parts => optE (tyElem P t) fun e => optE (tyE P e) fun z => guardE (N * z.1.length ≤ 16777216)
      (optB (Nat.ble N 1) (afill (fun i => some (i * z.1.length, z.1.length)) (reps z.1 N) (evParts ρ parts.toList)) fun out => k { v := .hs H.length 0 0 N z.1.length, new := some (.cells 0 out) })
  | .load t x => vcLoad P t (ρ x) H k
  | .store t x y => vcStore P t (ρ x) (ρ y) H k
  | .nilCheck x => match ρ x with
    | .ref b g i => k { v := .ref b g i }
    | .tref cs => k { v := .tref cs }
    | .fn (.func f) a b => k { v := .fn (.func f) a b }
    | _ => False
  | .binOp op t x y _ => vcBin P op t (ρ x) (ρ y) k
  | .unOp op _ x => vcUn op (ρ x) k
  | .convert s d x => match ρ x with
    | .int _ i => guardE ((P.underlying s).isSome = true) (optE (tyInt P d) fun kd => k { v := .int kd (kd.wrap i) })
    | a => vcConv P s d a H k
  | .makeInterface t x => guardE (tyConc P t = true) (k { v := .ifc t (ρ x) })
  | .makeFunc f first cap => k { v := .fn f (first.toList.map ρ) (cap.toList.map ρ) }
  | .makeSlice t x y => vcMake P t (ρ x) (ρ y) H k
  | .makeMap _ none => k { v := .mp H.length, new := some (.dict []) }
  | .lookup t x y ok => vcLook P t (ρ x) (ρ y) ok H k
  | .mapUpdate t x y z => vcPut P t (ρ x) (ρ y) (ρ z) H k
  | .insert t x y z => vcPut P t (ρ x) (ρ y) (ρ z) H k
  | .slice t x lo hi none => optE (optI ρ lo) fun rl => optE (optI ρ hi) fun rh => vcSliceA P t (ρ x) rl rh H k
  | .slice t x lo (some hi) (some mx) => optE (optI ρ lo) fun rl => match ρ hi, ρ mx with
    | .int _ rh, .int _ rm => match ρ x with
      | .sl kd N cs => optE (tyElem P t) fun e => optE (tyE P e) fun z => guardE (0 ≤ rl.getD 0 ∧ rl.getD 0 ≤ rh ∧ rh ≤ rm ∧ rm ≤ N)
        (k { v := .sl kd.cut (rh.toNat - (rl.getD 0).toNat) ((cs.drop ((rl.getD 0).toNat * z.1.length)).take ((rh.toNat - (rl.getD 0).toNat) * z.1.length)) })
      | _ => False
    | _, _ => False
  | .fieldAddr s x f => match ρ x with
    | .ref b g i => optE (tyFld P s f) fun off => k { v := .ref b g (i + off) }
    | .tref cs => optE (tyFld P s f) fun off => k { v := .tref (cs.drop off) }
    | _ => False
  | .field s x f => match ρ x with
    | .agg cs => optE (tyField P s f) fun
      | (off, none) => optE cs[off]? fun c => k { v := c }
      | (off, some n) => k { v := .agg ((cs.drop off).take n) }
    | _ => False
  | .indexAddr t x i => vcIndexAddr P t (ρ x) (ρ i) k
  | .index t x i => match ρ x, ρ i with
    | .str s, .int _ ix => guardE (isStr P t = true) (guardE (0 ≤ ix) (optE s[ix.toNat]? fun c => k { v := .int .u8 c.toNat }))
    | _, _ => False
  | .range t x => match ρ x with
    | .str s => guardE (isStr P t = true) (k { v := .ref H.length 0 0, new := some (.siter s 0) })
    | _ => False
  | .next x true => vcNext (ρ x) H k
  | .extract x i => match ρ x with | .tup vs => optE vs[i]? fun v => k { v := v } | _ => False
  | .call c => match c.callee with
    | .builtin b => vcBuiltin P b c.argTypes.toList (c.args.toList.map ρ) H k
    | _ => False
  | _ => False

def Got (P : Program) (o : Oper) (ρ : Operand → AV) (H : List Blk) (k : Eff → Prop) : Prop :=
  ∃ e, k e ∧ OpSem P o ρ H.length e ∧ (∀ p ∈ e.need, H[p.1]? = some p.2) ∧ (∀ p, e.upd = some p → ∃ y, (p.1, y) ∈ e.need)

theorem got_val {P : Program} {o : Oper} {ρ : Operand → AV} {H : List Blk} {k : Eff → Prop} {v : AV} (h : k { v := v }) (s : OpSem P o ρ H.length { v := v }) : Got P o ρ H k :=
  ⟨_, h, s, by simp, by simp⟩

theorem vcLoad_sound {P : Program} {o : Oper} {ρ : Operand → AV} {H : List Blk} {k : Eff → Prop} {t x} (ho : o.op = .load t x) (h : vcLoad P t (ρ x) H k) : Got P o ρ H k := by
  unfold vcLoad at h
  split at h
  · rename_i cs hx
    replace h := optE_some h
    obtain ⟨r, hr, h⟩ := h
    cases r with
    | none =>
      replace h := optE_some h
      obtain ⟨c, hc, h⟩ := h
      exact got_val h (sem_load_tref ho hx hr hc)
    | some n =>
      replace h := guardE_and h
      obtain ⟨hc, h⟩ := h
      exact got_val h (sem_loadAgg_tref ho hx hr hc)
  · rename_i b g i hx
    replace h := optE_some h
    obtain ⟨blk, hb, h⟩ := h
    replace h := optE_some h
    obtain ⟨⟨g', cs⟩, hrd, h⟩ := h
    replace h := guardE_and h
    obtain ⟨hg, h⟩ := h
    simp only at hg h
    subst hg
    replace h := optE_some h
    obtain ⟨r, hr, h⟩ := h
    cases r with
    | none =>
      replace h := optE_some h
      obtain ⟨c, hc, h⟩ := h
      exact ⟨_, h, sem_load_ref ho hx hr hrd hc, by simpa using hb, by simp⟩
    | some n =>
      replace h := guardE_and h
      obtain ⟨hc, h⟩ := h
      exact ⟨_, h, sem_loadAgg_ref ho hx hr hrd hc, by simpa using hb, by simp⟩
  · exact h.elim

theorem cellsOf_some {blk : Blk} {r : Nat × List AV} (h : blk.cellsOf = some r) : blk = .cells r.1 r.2 := by
  cases blk <;> simp only [Blk.cellsOf, reduceCtorEq, Option.some.injEq] at h
  subst h
  rfl

theorem vcStore_sound {P : Program} {o : Oper} {ρ : Operand → AV} {H : List Blk} {k : Eff → Prop} {t x y} (ho : o.op = .store t x y) (h : vcStore P t (ρ x) (ρ y) H k) : Got P o ρ H k := by
  unfold vcStore at h
  split at h
  · rename_i b g i hx
    replace h := optE_some h
    obtain ⟨blk, hb, h⟩ := h
    replace h := optE_some h
    obtain ⟨⟨g', cs⟩, hrd, h⟩ := h
    replace h := guardE_and h
    obtain ⟨hg, h⟩ := h
    simp only at hg h
    subst hg
    replace h := optE_some h
    obtain ⟨xs, hxs, h⟩ := h
    replace h := optE_some h
    obtain ⟨n, hn, h⟩ := h
    replace h := guardE_and h
    obtain ⟨⟨h1, h2, h3⟩, h⟩ := h
    have hblk := cellsOf_some hrd
    simp only at hblk
    subst hblk
    exact ⟨_, h, sem_store ho hx hxs hn h1 h2 h3, by simpa using hb, by simp⟩
  · exact h.elim

theorem vcIndexAddr_sound {P : Program} {o : Oper} {ρ : Operand → AV} {H : List Blk} {k : Eff → Prop} {t x y} (ho : o.op = .indexAddr t x y) (h : vcIndexAddr P t (ρ x) (ρ y) k) : Got P o ρ H k := by
  unfold vcIndexAddr at h
  split at h
  · rename_i kk i hy
    split at h
    · rename_i hx
      replace h := optE_some h
      obtain ⟨e, he, h⟩ := h
      replace h := optE_some h
      obtain ⟨z, hz, h⟩ := h
      replace h := guardE_and h
      obtain ⟨⟨h0, h1⟩, h⟩ := h
      exact got_val h (sem_indexAddr_sl ho hx hy he hz h0 h1)
    · rename_i hx
      replace h := optE_some h
      obtain ⟨e, he, h⟩ := h
      replace h := optE_some h
      obtain ⟨z, hz, h⟩ := h
      replace h := guardE_and h
      obtain ⟨⟨h0, h1⟩, h⟩ := h
      exact got_val h (sem_indexAddr_hs ho hx hy he hz h0 h1)
    · rename_i hx
      replace h := optE_some h
      obtain ⟨r, he, h⟩ := h
      replace h := guardE_and h
      obtain ⟨⟨h0, h1⟩, h⟩ := h
      exact got_val h (sem_indexAddr_arr ho hx hy he h0 h1)
    · rename_i hx
      replace h := optE_some h
      obtain ⟨r, he, h⟩ := h
      replace h := guardE_and h
      obtain ⟨⟨h0, h1⟩, h⟩ := h
      exact got_val h (sem_indexAddr_tarr ho hx hy he h0 h1)
    · exact h.elim
  · exact h.elim

theorem vcBin_sound {P : Program} {o : Oper} {ρ : Operand → AV} {H : List Blk} {k : Eff → Prop} {op t x y t'} (ho : o.op = .binOp op t x y t') (h : vcBin P op t (ρ x) (ρ y) k) : Got P o ρ H k := by
  unfold vcBin at h
  split at h
  · rename_i ki a kj b hx hy
    split at h
    · replace h := optE_some h
      obtain ⟨v, hv, h⟩ := h
      exact got_val h (sem_binSh ho hx hy hv)
    · replace h := optE_some h
      obtain ⟨v, hv, h⟩ := h
      exact got_val h (sem_binSh ho hx hy hv)
    · replace h := guardE_and h
      obtain ⟨hk, h⟩ := h
      subst hk
      replace h := optE_some h
      obtain ⟨v, hv, h⟩ := h
      exact got_val h (sem_binI ho hx hy hv)
  · rename_i a b hx hy
    split at h
    · replace h := guardE_and h
      obtain ⟨hk, h⟩ := h
      exact got_val h (sem_binS ho hx hy (fun _ => hk) rfl)
    · rename_i hne
      replace h := optE_some h
      obtain ⟨v, hv, h⟩ := h
      exact got_val h (sem_binS ho hx hy (fun e => absurd e hne) hv)
  · rename_i a b hx hy
    replace h := guardE_and h
    obtain ⟨ht, h⟩ := h
    replace h := optE_some h
    obtain ⟨v, hv, h⟩ := h
    exact got_val h (sem_binB ho hx hy (tyBool_some ht) hv)
  · rename_i kd N cs hx hy
    split at h
    · replace h := guardE_and h
      obtain ⟨hs, h⟩ := h
      replace h := optE_some h
      obtain ⟨r, hr, h⟩ := h
      exact got_val h (sem_eqNil_sl ho hx hy hs hr)
    · exact h.elim
  · rename_i hx hy
    split at h
    · obtain ⟨r, hr, h⟩ := h
      exact got_val h (sem_eqAgg ho hx hy hr (.inl rfl))
    · obtain ⟨r, hr, h⟩ := h
      exact got_val h (sem_eqAgg ho hx hy hr (.inr rfl))
    · exact h.elim
  · rename_i hy
    have key : ∀ r, fnNil (ρ x) = some r → (ρ x = .nilf ∧ r = true) ∨ (∃ f a b, ρ x = .fn f a b ∧ r = false) := fun r hr => by
      cases e : ρ x <;> rw [e] at hr <;> simp only [fnNil, reduceCtorEq, Option.some.injEq] at hr
      · exact .inl ⟨rfl, hr.symm⟩
      · exact .inr ⟨_, _, _, rfl, hr.symm⟩
    unfold vcEqNil at h
    split at h
    · obtain ⟨ht, h⟩ := guardE_and h
      obtain ⟨r, hr, h⟩ := optE_some h
      exact got_val h (sem_eqFn ho (key r hr) hy ht (.inl rfl))
    · obtain ⟨ht, h⟩ := guardE_and h
      obtain ⟨r, hr, h⟩ := optE_some h
      exact got_val h (sem_eqFn ho (key r hr) hy ht (.inr rfl))
    · exact h.elim
  · rename_i hy
    have key : ∀ r, ptNil (ρ x) = some r → (ρ x = .nilp ∧ r = true) ∨ (∃ b g i, ρ x = .ref b g i ∧ r = false) ∨ (∃ cs, ρ x = .tref cs ∧ r = false) := fun r hr => by
      cases e : ρ x <;> rw [e] at hr <;> simp only [ptNil, reduceCtorEq, Option.some.injEq] at hr
      · exact .inl ⟨rfl, hr.symm⟩
      · exact .inr (.inl ⟨_, _, _, rfl, hr.symm⟩)
      · exact .inr (.inr ⟨_, rfl, hr.symm⟩)
    unfold vcEqNil at h
    split at h
    · obtain ⟨ht, h⟩ := guardE_and h
      obtain ⟨r, hr, h⟩ := optE_some h
      exact got_val h (sem_eqPtr ho (key r hr) hy ht (.inl rfl))
    · obtain ⟨ht, h⟩ := guardE_and h
      obtain ⟨r, hr, h⟩ := optE_some h
      exact got_val h (sem_eqPtr ho (key r hr) hy ht (.inr rfl))
    · exact h.elim
  · exact h.elim

theorem vcUn_sound {P : Program} {o : Oper} {ρ : Operand → AV} {H : List Blk} {k : Eff → Prop} {op t x} (ho : o.op = .unOp op t x) (h : vcUn op (ρ x) k) : Got P o ρ H k := by
  unfold vcUn at h
  split at h
  · rename_i hx; exact got_val h (sem_not ho hx)
  · rename_i hx; exact got_val h (sem_neg ho hx)
  · rename_i hx; exact got_val h (sem_inv ho hx)
  · exact h.elim

theorem vcApp_sound {P : Program} {a : AV} {es : Nat} {H : List Blk} {k : List (Nat × Blk) → Nat → List AV → Prop} (h : vcApp a es H k) :
    ∃ nd n xs, k nd n xs ∧ XSem P a es nd n xs ∧ xs.length = n * es ∧ ∀ p ∈ nd, H[p.1]? = some p.2 := by
  unfold vcApp at h
  split at h
  · replace h := guardE_and h
    obtain ⟨h1, h⟩ := h
    exact ⟨_, _, _, h, xsem_sl h1, h1, by simp⟩
  · replace h := guardE_and h
    obtain ⟨h1, h⟩ := h
    subst h1
    replace h := optE_some h
    obtain ⟨blk, hb, h⟩ := h
    replace h := optE_some h
    obtain ⟨⟨g', cs⟩, hrd, h⟩ := h
    replace h := guardE_and h
    obtain ⟨⟨hg, hl⟩, h⟩ := h
    simp only at hg hl h
    subst hg
    exact ⟨_, _, _, h, xsem_hs hrd hl, by simp; omega, by simpa using hb⟩
  · replace h := guardE_and h
    obtain ⟨h1, h⟩ := h
    subst h1
    exact ⟨_, _, _, h, xsem_str, by simp [bytesA], by simp⟩
  · exact h.elim

theorem vcSlice_sound {P : Program} {o : Oper} {ρ : Operand → AV} {H : List Blk} {k : Eff → Prop} {t x lo hi rl rh} (ho : o.op = .slice t x lo hi none) (hl : optI ρ lo = some rl) (hh : optI ρ hi = some rh)
    (h : vcSlice P t (ρ x) rl rh k) : Got P o ρ H k := by
  unfold vcSlice at h
  split at h
  · rename_i hx
    replace h := optE_some h
    obtain ⟨e, he, h⟩ := h
    replace h := optE_some h
    obtain ⟨z, hz, h⟩ := h
    replace h := guardE_and h
    obtain ⟨⟨h0, h1, h2⟩, h⟩ := h
    exact got_val h (sem_slice_sl ho hx hl hh he hz h0 h1 h2)
  · rename_i hx
    replace h := optE_some h
    obtain ⟨e, he, h⟩ := h
    replace h := optE_some h
    obtain ⟨z, hz, h⟩ := h
    replace h := guardE_and h
    obtain ⟨hs, h⟩ := h
    replace h := guardE_and h
    obtain ⟨⟨⟨h0, h1, h2⟩, h3⟩, h⟩ := h
    exact got_val h (sem_slice_hs ho hx hl hh he hz hs h0 h1 h2 h3)
  · rename_i hx
    replace h := guardE_and h
    obtain ⟨ht, h⟩ := h
    replace h := guardE_and h
    obtain ⟨⟨h0, h1, h2⟩, h⟩ := h
    exact got_val h (sem_slice_str ho hx hl hh ht h0 h1 h2)
  · exact h.elim

theorem vcSliceA_sound {P : Program} {o : Oper} {ρ : Operand → AV} {H : List Blk} {k : Eff → Prop} {t x lo hi rl rh} (ho : o.op = .slice t x lo hi none) (hl : optI ρ lo = some rl) (hh : optI ρ hi = some rh)
    (h : vcSliceA P t (ρ x) rl rh H k) : Got P o ρ H k := by
  unfold vcSliceA at h
  split at h
  · rename_i hx
    replace h := optE_some h
    obtain ⟨r, ha, h⟩ := h
    replace h := optE_some h
    obtain ⟨blk, hb, h⟩ := h
    replace h := optE_some h
    obtain ⟨q, hq, h⟩ := h
    replace h := guardE_and h
    obtain ⟨⟨hg, hc0, hfit⟩, h⟩ := h
    replace h := guardE_and h
    obtain ⟨⟨⟨h0, h1, h2⟩, h3⟩, h⟩ := h
    have hblk := cellsOf_some hq
    rw [hg] at hblk
    subst hblk
    exact ⟨_, h, sem_slice_arr ho hx hl hh ha hc0 hfit h0 h1 h2 h3, by simpa using hb, by simp⟩
  · exact vcSlice_sound ho hl hh h

theorem arr1 {α : Type} {a : Array α} {x : α} (h : a.toList = [x]) : a = #[x] := by cases a; simp at h; subst h; rfl
theorem arr2 {α : Type} {a : Array α} {x y : α} (h : a.toList = [x, y]) : a = #[x, y] := by cases a; simp at h; subst h; rfl

theorem map1 {α β : Type} {f : α → β} {l : List α} {y : β} (h : l.map f = [y]) : ∃ x, l = [x] ∧ f x = y := by
  match l, h with
  | [x], h => exact ⟨x, rfl, by simpa using h⟩
theorem map2 {α β : Type} {f : α → β} {l : List α} {y z : β} (h : l.map f = [y, z]) : ∃ x x', l = [x, x'] ∧ f x = y ∧ f x' = z := by
  match l, h with
  | [x, x'], h => simp at h; exact ⟨x, x', rfl, h.1, h.2⟩

theorem vcBuiltin_sound {P : Program} {o : Oper} {ρ : Operand → AV} {H : List Blk} {k : Eff → Prop} {c : Call} {b : Builtin} (ho : o.op = .call c) (hc : c.callee = .builtin b)
    (h : vcBuiltin P b c.argTypes.toList (c.args.toList.map ρ) H k) : Got P o ρ H k := by
  unfold vcBuiltin at h
  split at h
  · rename_i t x hts hargs
    obtain ⟨x', hx', rfl⟩ := map1 hargs
    have ha := arr1 hx'
    have ht := arr1 hts
    unfold vcLen at h
    split at h
    · rename_i hx
      replace h := guardE_and h
      obtain ⟨hs, h⟩ := h
      exact got_val h (sem_len_sl ho hc ha t (by rw [ht]; rfl) hs hx)
    · rename_i hx
      replace h := guardE_and h
      obtain ⟨hs, h⟩ := h
      exact got_val h (sem_len_hs ho hc ha t (by rw [ht]; rfl) hs hx)
    · rename_i hx
      replace h := guardE_and h
      obtain ⟨hs, h⟩ := h
      exact got_val h (sem_len_str ho hc ha t (by rw [ht]; rfl) hs hx)
    · rename_i hx
      split at h
      · rename_i es hb
        replace h := guardE_and h
        obtain ⟨hs, h⟩ := h
        obtain ⟨kt, et, hs⟩ := isMap_some hs
        exact ⟨_, h, sem_len_map ho hc ha t (by rw [ht]; rfl) hs hx, by simpa using hb, by simp⟩
      · exact h.elim
    · exact h.elim
  · rename_i t xt s x hts hargs
    obtain ⟨s', x', hx', rfl, rfl⟩ := map2 hargs
    have ha := arr2 hx'
    have ht := arr2 hts
    unfold vcAppend at h
    replace h := guardE_and h
    obtain ⟨hno, h⟩ := h
    replace h := optE_some h
    obtain ⟨e, he, h⟩ := h
    replace h := optE_some h
    obtain ⟨⟨z, by'⟩, hz, h⟩ := h
    split at h
    · rename_i b g i N es hs
      replace h := guardE_and h
      obtain ⟨hes, h⟩ := h
      replace h := optE_some h
      obtain ⟨blk, hb, h⟩ := h
      replace h := optE_some h
      obtain ⟨⟨g', cs⟩, hrd, h⟩ := h
      replace h := guardE_and h
      obtain ⟨⟨hg, hl⟩, h⟩ := h
      simp only at hg hl h hes
      subst hg
      have hblk := cellsOf_some hrd
      simp only at hblk
      subst hblk
      obtain ⟨nd, m, xs, h, hx, hxl, hnd⟩ := vcApp_sound (P := P) h
      replace h := guardE_and h
      obtain ⟨⟨h1, h2⟩, h⟩ := h
      refine ⟨_, h, sem_append_hs ho hc ha ht he hz hno hs hes hl hx hxl h1 h2, ?_, ?_⟩
      · simp only [List.mem_cons]
        rintro p (rfl | hp)
        · exact hb
        · exact hnd p hp
      · intro p hp
        simp only [Option.some.injEq] at hp
        subst hp
        exact ⟨_, List.mem_cons_self⟩
    · rename_i hs
      obtain ⟨nd, m, xs, h, hx, hxl, hnd⟩ := vcApp_sound (P := P) h
      replace h := guardE_and h
      obtain ⟨⟨h1, h2⟩, h⟩ := h
      exact ⟨_, h, sem_append_nil ho hc ha ht he hz hno hs rfl hx hxl h1 h2, hnd, by simp⟩
    · exact h.elim
  · rename_i ts ki i kj j hargs
    obtain ⟨x, y, hxy, hx, hy⟩ := map2 hargs
    exact got_val h (sem_max ho hc (arr2 hxy) hx hy)
  · rename_i ts ki i kj j hargs
    obtain ⟨x, y, hxy, hx, hy⟩ := map2 hargs
    exact got_val h (sem_min ho hc (arr2 hxy) hx hy)
  · rename_i t x hts hargs
    obtain ⟨x', hx', rfl⟩ := map1 hargs
    have ha := arr1 hx'
    have ht := arr1 hts
    unfold vcClear at h
    split at h
    · rename_i b g i N es hs
      obtain ⟨e, he, h⟩ := optE_some h
      obtain ⟨⟨z, by'⟩, hz, h⟩ := optE_some h
      obtain ⟨hes, h⟩ := guardE_and h
      obtain ⟨blk, hb, h⟩ := optE_some h
      obtain ⟨⟨g', cs⟩, hrd, h'⟩ := optE_some h
      clear h
      obtain ⟨⟨hg, hl⟩, h⟩ := guardE_and h'
      clear h'
      simp only at hg hl h hes
      subst hg
      have hblk := cellsOf_some hrd
      simp only at hblk
      subst hblk
      exact ⟨_, h, sem_clear ho hc ha ht he hz hs hes hl, by simpa using hb, by intro p hp; simp only [Option.some.injEq] at hp; subst hp; exact ⟨_, List.mem_cons_self⟩⟩
    · exact h.elim
  · exact h.elim

theorem vcOp_sound {P : Program} {o : Oper} {ρ : Operand → AV} {H : List Blk} {k : Eff → Prop} (h : vcOp P o.op ρ H k) : Got P o ρ H k := by
  unfold vcOp at h
  split at h
  · rename_i ho; exact got_val h (sem_move (.inl ho))
  · rename_i ho; exact got_val h (sem_move (.inr ho))
  · rename_i ho
    split at h
    · rename_i b hc
      have hs := fun n => sem_pick (P := P) (n := n) ho hc
      rcases decB_or h with ⟨rfl, h⟩ | ⟨rfl, h⟩
      · exact got_val h (hs _)
      · exact got_val h (hs _)
    · exact h.elim
  · rename_i ho
    replace h := optE_some h
    obtain ⟨⟨z, by'⟩, hz, h⟩ := h
    exact ⟨_, h, sem_alloc ho hz, by simp, by simp⟩
  · rename_i ho
    replace h := optE_some h
    obtain ⟨cs, hc, h⟩ := h
    exact ⟨_, h, sem_box ho hc, by simp, by simp⟩
  · rename_i ho
    replace h := optE_some h
    obtain ⟨⟨z, ps⟩, hp, h⟩ := h
    replace h := optE_some h
    obtain ⟨out, hf, h⟩ := h
    exact got_val h (sem_build ho hp hf)
  · rename_i ho
    replace h := optE_some h
    obtain ⟨e, he, h⟩ := h
    replace h := optE_some h
    obtain ⟨⟨z, by'⟩, hz, h⟩ := h
    replace h := guardE_and h
    obtain ⟨hs, h⟩ := h
    replace h := optE_some (optB_out h)
    obtain ⟨out, hf, h⟩ := h
    exact ⟨_, h, sem_buildSlice ho he hz hs hf, by simp, by simp⟩
  · rename_i ho; exact vcLoad_sound ho h
  · rename_i ho; exact vcStore_sound ho h
  · rename_i ho
    split at h
    · rename_i hx; rw [← hx] at h; exact got_val h (sem_nilCheck ho (.inl ⟨_, _, _, hx⟩))
    · rename_i hx; rw [← hx] at h; exact got_val h (sem_nilCheck ho (.inr (.inl ⟨_, hx⟩)))
    · rename_i hx; rw [← hx] at h; exact got_val h (sem_nilCheck ho (.inr (.inr ⟨_, _, _, hx⟩)))
    · exact h.elim
  · rename_i ho; exact vcBin_sound ho h
  · rename_i ho; exact vcUn_sound ho h
  · rename_i ho
    split at h
    · rename_i hx
      replace h := guardE_and h
      obtain ⟨h1, h⟩ := h
      replace h := optE_some h
      obtain ⟨kd, h2, h⟩ := h
      exact got_val h (sem_convInt ho hx h1 h2)
    · unfold vcConv at h
      replace h := guardE_and h
      obtain ⟨h1, h⟩ := h
      replace h := optE_some h
      obtain ⟨e, h2, h⟩ := h
      obtain ⟨nd, m, xs, h, hx, hxl, hnd⟩ := vcApp_sound (P := P) h
      replace h := optE_some h
      obtain ⟨t, h3, h⟩ := h
      exact ⟨_, h, sem_convStr ho h1 h2 hx h3, hnd, by simp⟩
  · rename_i ho
    replace h := guardE_and h
    obtain ⟨h1, h⟩ := h
    exact got_val h (sem_makeInterface ho h1)
  · rename_i ho; exact got_val h (sem_makeFunc ho)
  · rename_i ho
    unfold vcMake at h
    split at h
    · rename_i hx hy
      replace h := optE_some h
      obtain ⟨e, he, h⟩ := h
      replace h := optE_some h
      obtain ⟨⟨z, by'⟩, hz, h⟩ := h
      replace h := guardE_and h
      obtain ⟨⟨h0, h1, h2, h3⟩, h⟩ := h
      exact ⟨_, h, sem_makeSlice ho hx hy he hz h0 h1 h2 h3, by simp, by simp⟩
    · exact h.elim
  · rename_i ho; exact ⟨_, h, sem_makeMap ho, by simp, by simp⟩
  · rename_i ho
    unfold vcLook at h
    split at h
    · rename_i b hx
      split at h
      · rename_i es hb
        obtain ⟨e, he, h⟩ := h
        exact ⟨e, h, he.sem ho hx, by rw [he.fit.1]; simpa using hb, by rw [he.fit.2]; simp⟩
      · exact h.elim
    · exact h.elim
  · rename_i ho
    unfold vcPut at h
    split at h
    · rename_i b hx
      split at h
      · rename_i es hb
        obtain ⟨e, he, h⟩ := h
        have hs := he.sem (n := H.length) ho hx
        cases he with
        | new hs' K hk hv hlx hks hf => exact ⟨_, h, hs, by simpa using hb, by simp⟩
      · exact h.elim
    · exact h.elim
  · rename_i ho
    unfold vcPut at h
    split at h
    · rename_i b hx
      split at h
      · rename_i es hb
        obtain ⟨e, he, h⟩ := h
        have hs := he.ins (n := H.length) ho hx
        cases he with
        | new hs' K hk hv hlx hks hf => exact ⟨_, h, hs, by simpa using hb, by simp⟩
      · exact h.elim
    · exact h.elim
  · rename_i ho
    replace h := optE_some h
    obtain ⟨rl, h1, h⟩ := h
    replace h := optE_some h
    obtain ⟨rh, h2, h⟩ := h
    exact vcSliceA_sound ho h1 h2 h
  · rename_i t x lo hi mx ho
    replace h := optE_some h
    obtain ⟨rl, h1, h⟩ := h
    split at h
    · rename_i kh rh km rm hh hm
      split at h
      · rename_i kd N cs hx
        replace h := optE_some h
        obtain ⟨e, he, h⟩ := h
        replace h := optE_some h
        obtain ⟨z, hz, h⟩ := h
        replace h := guardE_and h
        obtain ⟨⟨h0, h2, h3, h4⟩, h⟩ := h
        exact got_val h (sem_slice_sl3 ho hx h1 (by simp [optI, hh]) (by simp [optI, hm]) he hz h0 h2 h3 h4)
      · exact h.elim
    · exact h.elim
  · rename_i ho
    split at h
    · rename_i hx
      replace h := optE_some h
      obtain ⟨off, h1, h⟩ := h
      exact got_val h (sem_fieldAddr_ref ho hx h1)
    · rename_i hx
      replace h := optE_some h
      obtain ⟨off, h1, h⟩ := h
      exact got_val h (sem_fieldAddr_tref ho hx h1)
    · exact h.elim
  · rename_i ho
    split at h
    · rename_i hx
      replace h := optE_some h
      obtain ⟨r, h1, h⟩ := h
      split at h
      · replace h := optE_some h
        obtain ⟨c, h2, h⟩ := h
        exact got_val h (sem_field_one ho hx h1 h2)
      · exact got_val h (sem_field_agg ho hx h1)
    · exact h.elim
  · rename_i ho; exact vcIndexAddr_sound ho h
  · rename_i ho
    split at h
    · rename_i hx hy
      replace h := guardE_and h
      obtain ⟨h1, h⟩ := h
      replace h := guardE_and h
      obtain ⟨h2, h⟩ := h
      replace h := optE_some h
      obtain ⟨c, h3, h⟩ := h
      exact got_val h (sem_index_str ho hx hy h1 h2 h3)
    · exact h.elim
  · rename_i ho
    split at h
    · rename_i hx
      replace h := guardE_and h
      obtain ⟨h1, h⟩ := h
      exact ⟨_, h, sem_range_str ho hx h1, by simp, by simp⟩
    · exact h.elim
  · rename_i ho
    unfold vcNext at h
    split at h
    · rename_i b hx
      split at h
      · rename_i s pos hb
        rcases decB_or h with ⟨h1, h⟩ | ⟨h1, h⟩
        · exact ⟨_, h, sem_next_some ho hx (by simpa using h1), by simpa using hb, by simp⟩
        · exact ⟨_, h, sem_next_end ho hx (by simpa using h1), by simpa using hb, by simp⟩
      · exact h.elim
    · exact h.elim
  · rename_i ho
    split at h
    · rename_i hx
      replace h := optE_some h
      obtain ⟨v, h1, h⟩ := h
      exact got_val h (sem_extract ho hx h1)
    · exact h.elim
  · rename_i c ho
    split at h
    · rename_i b hc
      exact vcBuiltin_sound ho hc h
    · exact h.elim
  · exact h.elim

end Tab

/- Code: the verification condition of a region that has one order, of code, of a function; contracts of functions. -/
namespace Tab
open Go
variable [Globs]


inductive Out where
  | ret (v : AV)
  | pan

def lk (H : List Blk) : Hp := fun b => H[b]?

structure InvL (m : Mp) (ro : Nat → Prop) (H : List Blk) (w : World) : Prop where
  inv : Inv m ro (lk H) w
  bound : ∀ b g loc, m b g = some loc → b < H.length

def PanOk (chain : List PanicEntry) : Prop := ∃ t x, chain = [{ v := .iface t x, recovered := false }]

def OutRel (m : Mp) (ro : Nat → Prop) (w : World) : Out → Ending → Prop
  | .ret a, .returned v => VRel m ro w a v
  | .pan, .panicked chain => PanOk chain
  | _, _ => False

def callable (P : Program) (f : FuncId) : Bool := match P.funcs[f]? with
  | some fn => fn.body.isSome && !(fn.name == "runtime.NumGoroutine")
  | none => false

def ACall (P : Program) (f : FuncId) (args : List AV) (H : List Blk) (R : Out → List Blk → Prop) : Prop :=
  callable P f = true ∧ ∀ m ro w (cargs : Array Value), InvL m ro H w → VsRel m ro w args cargs.toList →
    Calls P f cargs w fun e w' => ∃ m' ro' out H', R out H' ∧ OutRel m' ro' w' out e ∧ InvL m' ro' H' w' ∧ Step m ro (lk H) w m' ro' (lk H') w'

theorem ACall.mono {P f args H R R'} (h : ACall P f args H R) (hr : ∀ o H', R o H' → R' o H') : ACall P f args H R' :=
  ⟨h.1, fun m ro w cargs hi hx => (h.2 m ro w cargs hi hx).mono fun _ _ ⟨m', ro', o, H', h1, h2⟩ => ⟨m', ro', o, H', hr _ _ h1, h2⟩⟩


structure Ctx where
  m : Mp
  ro : Nat → Prop
  H : List Blk
  w : World
  ds : List Deferred

inductive AExit where
  | normal | exit (id : Nat) | goto (l : Nat) | ret | pan

structure Fr where
  nt : Nat
  k : Nat
instance (n : Nat) : OfNat Fr n := ⟨⟨n, 0⟩⟩

def SRel (c : Ctx) (nt : Nat) (s : Slots) (H : List Blk) (a : Act) (w : World) : Prop :=
  ∃ m ro, InvL m ro H w ∧ Step c.m c.ro (lk c.H) c.w m ro (lk H) w ∧ SlotsRel m ro w s a ∧ a.tmps.size = nt ∧ a.defers = c.ds

def ExitRel : AExit → Exit → Prop
  | .normal, .normal => True
  | .exit i, .exit j => i = j
  | .goto i, .goto j => i = j
  | .ret, .ret => True
  | .pan, .panic chain => PanOk chain
  | _, _ => False

abbrev Post := AExit → Slots → List Blk → Prop

def lift (c : Ctx) (nt : Nat) (K : Post) : Exit → Act → World → Prop := fun e a w => ∃ ae s H, ExitRel ae e ∧ SRel c nt s H a w ∧ K ae s H

structure CtxN (nt : Fr) extends Ctx where
  kb : ∀ b g loc, toCtx.m b g = some loc → b < nt.k

def SW (P : Program) (nt : Fr) (code : Code) (s : Slots) (H : List Blk) (K : Post) : Prop :=
  ∀ (c : CtxN nt) a w, SRel c.toCtx nt.nt s H a w → code.wp P (lift c.toCtx nt.nt K) a w

def Ent (nt : Fr) (s : Slots) (H : List Blk) (s' : Slots) (H' : List Blk) : Prop := ∀ (c : CtxN nt) a w, SRel c.toCtx nt.nt s H a w → SRel c.toCtx nt.nt s' H' a w

theorem Ent.refl (nt s H) : Ent nt s H s H := fun _ _ _ h => h
theorem Ent.trans {nt s H s₁ H₁ s₂ H₂} (h : Ent nt s H s₁ H₁) (h' : Ent nt s₁ H₁ s₂ H₂) : Ent nt s H s₂ H₂ := fun c a w k => h' c a w (h c a w k)

theorem SW.mono {P nt code s H} {K K' : Post} (h : SW P nt code s H K) (hk : ∀ e s H, K e s H → K' e s H) : SW P nt code s H K' :=
  fun c a w hs => wp_mono (h c a w hs) fun _ _ _ ⟨ae, s', H', h1, h2, h3⟩ => ⟨ae, s', H', h1, h2, hk _ _ _ h3⟩
theorem SW.ent {P nt code s H s' H'} {K : Post} (e : Ent nt s H s' H') (h : SW P nt code s' H' K) : SW P nt code s H K := fun c a w hs => h c a w (e c a w hs)


def seqK (y : Slots → List Blk → Prop) (K : Post) : Post := fun e s H => match e with | .normal => y s H | e => K e s H

theorem SW.seq {P nt x y s H} {K : Post} (h : SW P nt x s H (seqK (fun s H => SW P nt y s H K) K)) : SW P nt (.seq x y) s H K := by
  intro c a w hs
  refine wp_seq (wp_mono (h c a w hs) ?_)
  rintro e a w ⟨ae, s, H, he, hr, hk⟩
  cases ae <;> cases e <;> simp only [ExitRel] at he <;> first
    | exact hk c a w hr
    | exact ⟨_, s, H, by first | exact trivial | exact he, hr, hk⟩

theorem SW.skip {P nt s H} {K : Post} (h : K .normal s H) : SW P nt .skip s H K := fun _ _ _ hs => wp_skip ⟨.normal, s, H, trivial, hs, h⟩
theorem SW.label {P nt l s H} {K : Post} (h : K .normal s H) : SW P nt (.label l) s H K := fun _ _ _ hs => wp_label ⟨.normal, s, H, trivial, hs, h⟩
theorem SW.exit {P nt id s H} {K : Post} (h : K (.exit id) s H) : SW P nt (.exit id) s H K := fun _ _ _ hs => wp_exit ⟨.exit id, s, H, rfl, hs, h⟩
theorem SW.goto {P nt id s H} {K : Post} (h : K (.goto id) s H) : SW P nt (.goto id) s H K := fun _ _ _ hs => wp_goto ⟨.goto id, s, H, rfl, hs, h⟩
theorem SW.ret {P nt s H} {K : Post} (h : K .ret s H) : SW P nt .ret s H K := fun _ _ _ hs => wp_ret ⟨.ret, s, H, trivial, hs, h⟩

theorem SW.cond {P nt c x y s H} {K : Post} {b : Bool} (hc : ev s c = .bool b) (ht : b = true → SW P nt x s H K) (hf : b = false → SW P nt y s H K) : SW P nt (.cond c x y) s H K := by
  intro cx a w hs
  obtain ⟨m, ro, hi, hst, hsl, hsz, hd⟩ := hs
  have he := ev_rel hi.inv.glob hsl c
  rw [hc] at he
  simp only [VRel] at he
  have hs : SRel cx.toCtx nt.nt s H a w := ⟨m, ro, hi, hst, hsl, hsz, hd⟩
  exact wp_cond_split he (fun h => ht h cx a w hs) (fun h => hf h cx a w hs)

def blockK (id : Nat) (K : Post) : Post := fun e s H => match e with | .exit id' => decB (Nat.beq id' id) (K .normal s H) (K (.exit id') s H) | e => K e s H

theorem SW.block {P nt id x s H} {K : Post} (h : SW P nt x s H (blockK id K)) : SW P nt (.block id x) s H K := by
  intro c a w hs
  refine wp_block (wp_mono (h c a w hs) ?_)
  rintro e a w ⟨ae, s, H, he, hr, hk⟩
  cases ae <;> cases e <;> simp only [ExitRel] at he
  case exit.exit i j =>
    subst he
    simp only [Exit.inBlock]
    rcases decB_or hk with ⟨h1, hk⟩ | ⟨h1, hk⟩
    · rw [if_pos (Nat.eq_of_beq_eq_true h1)]
      exact ⟨.normal, s, H, trivial, hr, hk⟩
    · rw [if_neg (fun e => by subst e; simp at h1)]
      exact ⟨.exit i, s, H, rfl, hr, hk⟩
  all_goals exact ⟨_, s, H, by first | exact trivial | exact he, hr, hk⟩

def loopK {ι : Type} (nt : Fr) (st : ι → Slots × List Blk) (μ : ι → Nat) (i : ι) (K : Post) : Post := fun e s H => match e with
  | .normal => ∃ j, μ j < μ i ∧ Ent nt s H (st j).1 (st j).2
  | e => K e s H

theorem SW.loop {P nt x s H} {K : Post} {ι : Type} (st : ι → Slots × List Blk) (μ : ι → Nat) (i₀ : ι) (h0 : Ent nt s H (st i₀).1 (st i₀).2)
    (h : ∀ i, SW P nt x (st i).1 (st i).2 (loopK nt st μ i K)) : SW P nt (.loop x) s H K := by
  intro c a w hs b k cs
  have hs := h0 c a w hs
  have key : ∀ n a w i, μ i = n → SRel c.toCtx nt.nt (st i).1 (st i).2 a w →
      ∃ e a' w', lift c.toCtx nt.nt K e a' w' ∧ Arrives P (lone (b.at a (.code x :: .inLoop x :: k)) cs w) b k cs e a' w' := by
    intro n
    induction n using Nat.strongRecOn with
    | _ n ih =>
      intro a w i hn hs
      obtain ⟨e, a₁, w₁, ⟨ae, s₁, H₁, he, hr, hk⟩, harr⟩ := h i c a w hs b (.inLoop x :: k) cs
      cases ae <;> cases e <;> simp only [ExitRel] at he
      case normal.normal =>
        obtain ⟨j, hlt, hent⟩ := hk
        obtain ⟨e₂, a₂, w₂, hq₂, harr₂⟩ := ih (μ j) (hn ▸ hlt) a₁ w₁ j rfl (hent c a₁ w₁ hr)
        exact ⟨e₂, a₂, w₂, hq₂, .of_steps (Steps.trans harr (.one step_inLoop)) harr₂⟩
      all_goals exact ⟨_, a₁, w₁, ⟨_, s₁, H₁, by first | exact trivial | exact he, hr, hk⟩, .pass (x := .inLoop x) rfl (fun _ _ => .inl (by simp)) harr⟩
  obtain ⟨e, a', w', hq, harr⟩ := key _ a w i₀ rfl hs
  exact ⟨e, a', w', hq, .of_steps (.one step_loop) harr⟩


def updL (H : List Blk) : Option (Nat × Blk) → List Blk
  | some (i, y) => H.set i y
  | none => H
def appL (H : List Blk) (e : Eff) : List Blk :=
  match e.new with
  | some x => updL H e.upd ++ [x]
  | none => updL H e.upd
theorem appL_eq (H : List Blk) (e : Eff) : appL H e = (match e.upd with | some (i, y) => H.set i y | none => H) ++ (match e.new with | some x => [x] | none => []) := by
  unfold appL updL
  cases e.new <;> cases e.upd <;> simp

theorem appL_lk {H : List Blk} {e : Eff} (hu : ∀ p, e.upd = some p → p.1 < H.length) : lk (appL H e) = app (lk H) H.length e := by
  funext b
  rw [appL_eq]
  unfold lk app
  cases hn : e.new with
  | none =>
    cases hp : e.upd with
    | none => simp
    | some p =>
      obtain ⟨i, y⟩ := p
      have := hu (i, y) hp
      simp only at this
      simp only [List.append_nil, List.getElem?_set, this, if_true]
      by_cases h : i = b
      · simp [h]
      · simp [h, Ne.symm h]
  | some x =>
    cases hp : e.upd with
    | none =>
      simp only [List.getElem?_append]
      by_cases h : b < H.length
      · simp [h, Nat.ne_of_lt h]
      · by_cases h' : b = H.length
        · simp [h']
        · simp only [h, if_false, h']
          rw [List.getElem?_eq_none (by simp; omega), List.getElem?_eq_none (by omega)]
    | some p =>
      obtain ⟨i, y⟩ := p
      have := hu (i, y) hp
      simp only at this
      simp only [List.getElem?_append, List.length_set, List.getElem?_set, this, if_true]
      by_cases h : b < H.length
      · simp only [h, if_true, Nat.ne_of_lt h, if_false]
        by_cases h' : i = b
        · simp [h']
        · simp [h', Ne.symm h']
      · by_cases h' : b = H.length
        · simp [h']
        · have h2 : ¬ b = i := by omega
          simp only [h, if_false, h', h2]
          rw [List.getElem?_eq_none (by simp; omega), List.getElem?_eq_none (by omega)]

theorem appL_length (H : List Blk) (e : Eff) : (appL H e).length = H.length + (if e.new.isSome then 1 else 0) := by
  rw [appL_eq]
  cases e.upd <;> cases e.new <;> simp

theorem OpSem.srel {P : Program} {o : Oper} {s : Slots} {H : List Blk} {e : Eff} (ho : OpSem P o (ev s) H.length e) (hn : ∀ p ∈ e.need, H[p.1]? = some p.2) (hu : ∀ p, e.upd = some p → ∃ y, (p.1, y) ∈ e.need)
    {c : Ctx} {nt : Nat} {a : Act} {w : World} (hs : SRel c nt s H a w) (hd : ∀ t, o.dst = some t → t < nt) {next : Act → World → Prop} {Q : Exit → Act → World → Prop}
    (k : ∀ a' w', SRel c nt (updo s o.dst e.v) (appL H e) a' w' → next a' w') : o.wp P a w next Q := by
  obtain ⟨m, ro, hi, hst, hsl, hsz, hdf⟩ := hs
  have hup : ∀ p, e.upd = some p → p.1 < H.length := fun p hp => by
    obtain ⟨y, hy⟩ := hu p hp
    exact (List.getElem?_eq_some_iff.1 (hn _ hy)).1
  refine ho m ro (lk H) w a hi.inv (fun x _ => ev_rel hi.inv.glob hsl x) hn (fun x _ => ⟨List.getElem?_eq_none (Nat.le_refl _), fun g => ?_⟩) next Q (fun m' ro' w' v' hv hi' hst' hne => ?_)
  · cases h : m H.length g with
    | none => rfl
    | some l => exact absurd (hi.bound _ _ _ h) (Nat.lt_irrefl _)
  · rw [← appL_lk hup] at hi' hst'
    refine k _ _ ⟨m', ro', ⟨hi', fun b g loc h => ?_⟩, hst.trans hst', (hsl.step hi.inv hst').put hv (fun t ht => by rw [hsz]; exact hd t ht), ?_, ?_⟩
    · rw [appL_length]
      by_cases hmm : m' b g = m b g
      · rw [hmm] at h
        have := hi.bound b g loc h
        omega
      · rcases hne b g hmm with ⟨y, hy⟩ | ⟨rfl, hnew⟩
        · have := hup _ hy
          simp only at this
          omega
        · simp [hnew]
    · cases o.dst <;> simp [Act.put, hsz]
    · cases o.dst <;> simp [Act.put, hdf]

def callE (P : Program) (fv : AV) (args : List AV) (H : List Blk) (K : Out → List Blk → Prop) : Prop :=
  match fv with
  | .fn (.func f) first cap => ∃ R, ACall P f (first ++ args ++ cap) H R ∧ ∀ o H', R o H' → K o H'
  | _ => False

def vcRun (P : Program) (o : Oper) (s : Slots) (H : List Blk) (K : Post) (next : Slots → List Blk → Prop) : Prop :=
  match o.op with
  | .call c => match c.callee with
    | .value f => callE P (ev s f) (c.args.toList.map (ev s)) H fun out H' => match out with
      | .ret v => next (updo s o.dst v) H'
      | .pan => K .pan s H'
    | .builtin b => vcOp P (.call c) (ev s) H fun e => next (updo s o.dst e.v) (appL H e)
    | .invoke _ _ => False
  | .panic x => match ev s x with
    | .ifc _ _ => K .pan s H
    | _ => False
  | op => vcOp P op (ev s) H fun e => next (updo s o.dst e.v) (appL H e)

def vcGuard (all : List Oper) (g : Option (Nat × Bool)) (s : Slots) (run skip : Slots → Prop) : Prop :=
  match g with
  | none => run s
  | some (j, want) => match (all[j]?).bind (·.dst) with
    | some d => match s d with
      | .bool b => decB b (match want with | true => run (upd s d (.bool true)) | false => skip (upd s d (.bool true)))
          (match want with | true => skip (upd s d (.bool false)) | false => run (upd s d (.bool false)))
      | .tup _ => skip s
      | _ => False
    | none => False

def vcRunG (P : Program) (o : Oper) (s : Slots) (H : List Blk) (K : Post) (next : Slots → List Blk → Prop) : Prop :=
  vcRun P o s H K next ∨ Got P o (ev s) H fun e => next (updo s o.dst e.v) (appL H e)

theorem vcGuard_mono {all : List Oper} {g : Option (Nat × Bool)} {s : Slots} {r r' k : Slots → Prop} (hr : ∀ s, r s → r' s) (h : vcGuard all g s r k) : vcGuard all g s r' k := by
  cases g with
  | none => exact hr _ h
  | some p =>
    obtain ⟨j, want⟩ := p
    simp only [vcGuard] at h ⊢
    cases hd : (all[j]?).bind (·.dst) with
    | none => rw [hd] at h; exact h.elim
    | some d =>
      rw [hd] at h
      simp only at h ⊢
      cases hv : s d with
      | bool b => rw [hv] at h; cases b <;> cases want <;> first | exact h | exact hr _ h
      | tup vs => rw [hv] at h; exact h
      | _ => rw [hv] at h; exact h.elim

def vcOps (P : Program) (all : List Oper) : List Oper → Slots → List Blk → Post → Prop
  | [], s, H, K => K .normal s H
  | o :: os, s, H, K => vcGuard all o.guard s (fun s => vcRunG P o s H K fun s H => vcOps P all os s H K) (fun s => vcOps P all os (updo s o.dst (.tup [])) H K)

def dstOk (nt : Nat) (ops : List Oper) : Bool := ops.all fun o => match o.dst with | some t => Nat.blt t nt | none => true

theorem dstOk_of {nt : Nat} {ops : List Oper} (h : dstOk nt ops = true) {o : Oper} (ho : o ∈ ops) : ∀ t, o.dst = some t → t < nt := by
  intro t ht
  have := List.all_eq_true.1 h o ho
  simp only [ht] at this
  exact Nat.le_of_ble_eq_true this

theorem srel_eq {c nt s H a w} (h : SRel c nt s H a w) {d : Nat} {b : Bool} (hd : s d = .bool b) : a.tmps[d]? = some (.bool b) := by
  obtain ⟨m, ro, _, _, hsl, _, _⟩ := h
  have := hsl d
  rw [hd] at this
  simp only [VRel] at this
  rw [Array.getD_eq_getD_getElem?] at this
  cases h : a.tmps[d]? with
  | none => rw [h] at this; simp [undef] at this
  | some v => rw [h] at this; simpa using this

theorem srel_refresh {c nt s H a w} (h : SRel c nt s H a w) {d : Nat} {b : Bool} (hd : s d = .bool b) : SRel c nt (upd s d (.bool b)) H a w := by
  obtain ⟨m, ro, h1, h2, hsl, h3⟩ := h
  refine ⟨m, ro, h1, h2, fun t => ?_, h3⟩
  simp only [upd]
  by_cases e : t = d
  · subst e
    have := hsl t
    rw [hd] at this
    simpa using this
  · have : Nat.beq t d = false := by rw [← Bool.not_eq_true]; intro h; exact e (Nat.eq_of_beq_eq_true h)
    rw [this]
    exact hsl t

theorem callFunc_run {P : Program} {f : FuncId} (h : callable P f = true) (args : Array Value) (w : World) : (callFunc f args).run P w = .ok (.enter f args) w := by
  unfold callable at h
  split at h
  · rename_i fn hf
    simp only [Bool.and_eq_true, Bool.not_eq_true', beq_eq_false_iff_ne] at h
    obtain ⟨h1, h2⟩ := h
    obtain ⟨cc, hc⟩ := Option.isSome_iff_exists.1 h1
    simp [callFunc, hf, h2, hc]
  · simp at h

theorem vcRun_sound {P : Program} {nt : Nat} {o : Oper} {s : Slots} {H : List Blk} {K : Post} {nx : Slots → List Blk → Prop} (h : vcRun P o s H K nx) (hd : ∀ t, o.dst = some t → t < nt)
    {c : Ctx} {a : Act} {w : World} (hs : SRel c nt s H a w) {next : Act → World → Prop} (hnext : ∀ s' H' a' w', nx s' H' → SRel c nt s' H' a' w' → next a' w') : o.wp P a w next (lift c nt K) := by
  have simple : ∀ {k}, Got P o (ev s) H k → (∀ e, k e → nx (updo s o.dst e.v) (appL H e)) → o.wp P a w next (lift c nt K) := by
    rintro k ⟨e, he, hsem, hn, hu⟩ hk
    exact hsem.srel hn hu hs hd fun a' w' hs' => hnext _ _ _ _ (hk e he) hs'
  unfold vcRun at h
  split at h
  · rename_i cl ho
    split at h
    · rename_i f hc
      unfold callE at h
      split at h
      · rename_i fid first cap hfv
        obtain ⟨R, hcall, hR⟩ := h
        obtain ⟨m, ro, hi, hst, hsl, hsz, hdf⟩ := hs
        have hf := ev_rel hi.inv.glob hsl f
        rw [hfv] at hf
        simp only [VRel] at hf
        obtain ⟨va, vb, hfe, hva, hvb⟩ := hf
        have hargs : VsRel m ro w (cl.args.toList.map (ev s)) (cl.args.map a.eval).toList := by
          rw [Array.toList_map]
          exact map_rel _ fun x _ => ev_rel hi.inv.glob hsl x
        have hrun : (execOp a.eval o).run P w = .ok (.enter fid (va ++ cl.args.map a.eval ++ vb)) w := by
          simp [execOp, ho, resolve, hc, hfe, Deferred.ofValue, invoke, callFunc_run hcall.1]
        unfold Oper.wp
        rw [hrun]
        refine (hcall.2 m ro w (va ++ cl.args.map a.eval ++ vb) hi (by rw [Array.toList_append, Array.toList_append]; exact (hva.append hargs).append hvb)).mono ?_
        rintro e w' ⟨m', ro', out, H', hRo, hout, hi', hst'⟩
        have hk := hR _ _ hRo
        cases out with
        | ret v =>
          cases e with
          | returned u =>
            simp only [OutRel] at hout
            refine hnext _ _ _ _ hk ⟨m', ro', hi', hst.trans hst', (hsl.step hi.inv hst').put hout (fun t ht => by rw [hsz]; exact hd t ht), ?_, ?_⟩
            · cases o.dst <;> simp [Act.put, hsz]
            · cases o.dst <;> simp [Act.put, hdf]
          | panicked _ => exact hout.elim
          | outgrown => exact hout.elim
        | pan =>
          cases e with
          | returned u => exact hout.elim
          | panicked chain => exact ⟨.pan, s, H', hout, ⟨m', ro', hi', hst.trans hst', hsl.step hi.inv hst', hsz, hdf⟩, hk⟩
          | outgrown => exact hout.elim
      · exact h.elim
    · rename_i b hc
      rw [← ho] at h
      exact simple (vcOp_sound h) fun e he => he
    · exact h.elim
  · rename_i x ho
    split at h
    · rename_i t y hx
      obtain ⟨m, ro, hi, hst, hsl, hsz, hdf⟩ := hs
      have he := ev_rel hi.inv.glob hsl x
      rw [hx] at he
      simp only [VRel] at he
      obtain ⟨z, hz, _⟩ := he
      have hrun : (execOp a.eval o).run P w = .halt (.panic (.iface t z)) w := by
        simp [execOp, ho, hz, Instr.panic, goPanic]
      unfold Oper.wp
      rw [hrun]
      exact ⟨.pan, s, H, ⟨t, z, rfl⟩, ⟨m, ro, hi, hst, hsl, hsz, hdf⟩, h⟩
    · exact h.elim
  · rename_i ho hne
    exact simple (vcOp_sound h) fun e he => he

theorem vcOps_sound {P : Program} {nt : Nat} {ops : Array Oper} {K : Post} (hd : dstOk nt ops.toList = true) : ∀ (rest : List Oper) (i : Nat) (s : Slots) (H : List Blk), rest = ops.toList.drop i → vcOps P ops.toList rest s H K →
    ∀ (c : Ctx) (a : Act) (w : World), SRel c nt s H a w → wpOps P ops (lift c nt K) (List.range' i rest.length) a w
  | [], i, s, H, _, h, c, a, w, hs => ⟨.normal, s, H, trivial, hs, h⟩
  | o :: os, i, s, H, hr, h, c, a, w, hs => by
    have hi : ops[i]? = some o := by
      have : (ops.toList.drop i)[0]? = some o := by rw [← hr]; rfl
      simpa using this
    have hos : os = ops.toList.drop (i + 1) := by
      have : (ops.toList.drop i).drop 1 = os := by rw [← hr]; rfl
      rw [List.drop_drop] at this
      rw [← this]
    have hmem : o ∈ ops.toList := by
      have := List.mem_of_getElem? (l := ops.toList) (i := i) (a := o) (by simpa using hi)
      exact this
    have hdo := dstOk_of hd hmem
    have run : ∀ s', SRel c nt s' H a w → vcRunG P o s' H K (fun s H => vcOps P ops.toList os s H K) → o.wp P a w (wpOps P ops (lift c nt K) (List.range' (i + 1) os.length)) (lift c nt K) := fun s' hs' h' => by
      rcases h' with h' | ⟨e, he, hsem, hn, hu⟩
      · exact vcRun_sound h' hdo hs' fun s'' H'' a'' w'' hk hs'' => vcOps_sound hd os (i + 1) s'' H'' hos hk c a'' w'' hs''
      · exact hsem.srel hn hu hs' hdo fun a'' w'' hs'' => vcOps_sound hd os (i + 1) _ _ hos he c a'' w'' hs''
    have skip : ∀ s', SRel c nt s' H a w → vcOps P ops.toList os (updo s' o.dst (.tup [])) H K → wpOps P ops (lift c nt K) (List.range' (i + 1) os.length) (a.put o.dst undef) w := by
      intro s' hs' h'
      refine vcOps_sound hd os (i + 1) _ H hos h' c _ w ?_
      obtain ⟨m, ro, h1, h2, hsl, hsz, hdf⟩ := hs'
      refine ⟨m, ro, h1, h2, hsl.put (by simp only [VRel]; exact ⟨#[], rfl, by simp [VsRel]⟩) (fun t ht => by rw [hsz]; exact hdo t ht), ?_, ?_⟩
      · cases o.dst <;> simp [Act.put, hsz]
      · cases o.dst <;> simp [Act.put, hdf]
    simp only [List.length_cons, List.range'_succ, wpOps, hi]
    simp only [vcOps] at h
    unfold vcGuard at h
    split at h
    · rename_i hg
      have hw : Region.wanted o (yielded ops a.tmps) = true := by simp [Region.wanted, hg]
      rw [if_pos hw]
      exact .inl (run s hs h)
    · rename_i j want hg
      split at h
      · rename_i d hdj
        have hdj' : ((ops[j]?).bind (·.dst)) = some d := by simpa using hdj
        split at h
        · rename_i b hb
          have ht := srel_eq hs hb
          have hy : yielded ops a.tmps j = some b := by
            unfold yielded
            rw [hdj']
            simp [ht]
          have hs' := srel_refresh hs hb
          have hw : Region.wanted o (yielded ops a.tmps) = (some b == some want) := by simp [Region.wanted, hg, hy]
          rw [hw]
          rcases decB_or h with ⟨rfl, h⟩ | ⟨rfl, h⟩
          · cases want
            · rw [if_neg (by decide)]; exact skip _ hs' h
            · rw [if_pos (by decide)]; exact .inl (run _ hs' h)
          · cases want
            · rw [if_pos (by decide)]; exact .inl (run _ hs' h)
            · rw [if_neg (by decide)]; exact skip _ hs' h
        · rename_i vs hb
          have ht : (a.tmps[d]?).bind (fun v => match v with | .bool b => some b | _ => none) = none := by
            obtain ⟨m, ro, _, _, hsl, _, _⟩ := hs
            have := hsl d
            rw [hb] at this
            simp only [VRel] at this
            obtain ⟨va, hva, _⟩ := this
            rw [Array.getD_eq_getD_getElem?] at hva
            cases h : a.tmps[d]? with
            | none => rfl
            | some v => rw [h] at hva; simp at hva; subst hva; rfl
          have hy : yielded ops a.tmps j = none := by
            unfold yielded
            rw [hdj']
            cases h : a.tmps[d]? with
            | none => simp [h]
            | some v => cases v <;> simp_all
          have hw : Region.wanted o (yielded ops a.tmps) = false := by simp [Region.wanted, hg, hy]
          rw [hw, if_neg (by decide)]
          exact skip _ hs h
        · exact h.elim
      · exact h.elim

theorem SW.region {P nt id} {ops : Array Oper} {s H} {K : Post} (hd : dstOk nt.nt ops.toList = true) (h : vcOps P ops.toList ops.toList s H K) : SW P nt (.region id ops false) s H K := by
  intro c a w hs
  refine wp_region ?_
  have := vcOps_sound (P := P) hd ops.toList 0 s H (by simp) h c.toCtx a w hs
  rwa [List.range_eq_range', Array.length_toList] at *

structure VOps (P : Program) (all l : List Oper) (s : Slots) (H : List Blk) (K : Post) : Prop where
  out : vcOps P all l s H K

def vcOps1 (P : Program) (all : List Oper) : List Oper → Slots → List Blk → Post → Prop
  | [], s, H, K => K .normal s H
  | o :: os, s, H, K => vcGuard all o.guard s (fun s => vcRun P o s H K fun s H => VOps P all os s H K) (fun s => VOps P all os (updo s o.dst (.tup [])) H K)

def vcOpsG (P : Program) (all : List Oper) : List Oper → Slots → List Blk → Post → Prop
  | [], _, _, _ => False
  | o :: os, s, H, K => vcGuard all o.guard s (fun s => Got P o (ev s) H fun e => VOps P all os (updo s o.dst e.v) (appL H e) K) (fun s => VOps P all os (updo s o.dst (.tup [])) H K)

theorem vops_eq (P : Program) (all : List Oper) : VOps P all = vcOps P all := by
  funext l s H K
  exact propext ⟨fun h => h.out, fun h => ⟨h⟩⟩

theorem opsStep {P : Program} {all l : List Oper} {s : Slots} {H : List Blk} {K : Post} (h : vcOps1 P all l s H K) : VOps P all l s H K := by
  refine ⟨?_⟩
  cases l with
  | nil => exact h
  | cons o os =>
    simp only [vcOps1, vops_eq] at h
    exact vcGuard_mono (fun _ h => .inl h) h
theorem opsGot {P : Program} {all l : List Oper} {s : Slots} {H : List Blk} {K : Post} (h : vcOpsG P all l s H K) : VOps P all l s H K := by
  refine ⟨?_⟩
  cases l with
  | nil => exact h.elim
  | cons o os =>
    simp only [vcOpsG, vops_eq] at h
    exact vcGuard_mono (fun _ h => .inr h) h

end Tab
