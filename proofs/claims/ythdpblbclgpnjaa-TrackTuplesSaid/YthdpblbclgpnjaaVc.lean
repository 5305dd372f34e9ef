/- The verification condition of one operation, computed; and that it is sound. -/
import Derived.Test.YthdpblbclgpnjaaOp5
set_option linter.unusedVariables false
set_option linter.unusedSimpArgs false
set_option linter.unusedSectionVars false
namespace Tab
open Go
variable [Globs]

/-! ### Words that compute on what is known, and are met by a lemma else -/

def optE {α : Type} (o : Option α) (A : α → Prop) : Prop := match o with | some c => A c | none => False
def guardE (p : Prop) [Decidable p] (A : Prop) : Prop := if p then A else False
def decB (b : Bool) (A B : Prop) : Prop := match b with | true => A | false => B

/-- The same, shut: what is computed here is given by the proof, not found by unfolding. -/
structure OptX {α : Type} (o : Option α) (A : α → Prop) : Prop where
  out : optE o A
def optB {α : Type} (b : Bool) (o : Option α) (A : α → Prop) : Prop := match b with | true => optE o A | false => OptX o A
theorem optB_out {α : Type} {b : Bool} {o : Option α} {A : α → Prop} (h : optB b o A) : optE o A := by
  cases b
  · exact h.out
  · exact h

theorem optE_of {α : Type} {o : Option α} {A : α → Prop} {c : α} (h : o = some c) (k : A c) : optE o A := by subst h; exact k
theorem optX_of {α : Type} {o : Option α} {A : α → Prop} {c : α} (h : o = some c) (k : A c) : OptX o A := ⟨optE_of h k⟩
theorem guardE_of {p : Prop} [Decidable p] {A : Prop} (h : p) (k : A) : guardE p A := by unfold guardE; rw [if_pos h]; exact k
theorem decB_split {b : Bool} {A B : Prop} (h : b = true → A) (k : b = false → B) : decB b A B := by cases b; exact k rfl; exact h rfl
theorem decB_true {b : Bool} {A B : Prop} (h : b = true) (k : A) : decB b A B := by subst h; exact k
theorem decB_false {b : Bool} {A B : Prop} (h : b = false) (k : B) : decB b A B := by subst h; exact k
theorem optE_some {α : Type} {o : Option α} {A : α → Prop} (h : optE o A) : ∃ c, o = some c ∧ A c := by
  unfold optE at h
  split at h
  · exact ⟨_, rfl, h⟩
  · exact h.elim
theorem guardE_and {p : Prop} [Decidable p] {A : Prop} (h : guardE p A) : p ∧ A := by
  unfold guardE at h
  split at h
  · exact ⟨‹p›, h⟩
  · exact h.elim
theorem decB_or {b : Bool} {A B : Prop} (h : decB b A B) : (b = true ∧ A) ∨ (b = false ∧ B) := by
  cases b
  · exact .inr ⟨rfl, h⟩
  · exact .inl ⟨rfl, h⟩

def tyBool (P : Program) (t : TypeId) : Bool := match P.underlying t with | some .bool => true | _ => false
theorem tyBool_some {P : Program} {t : TypeId} (h : tyBool P t = true) : P.underlying t = some .bool := by
  unfold tyBool at h
  split at h <;> simp_all

/-! ### One operation -/

def vcLoad (P : Program) (t : TypeId) (a : AV) (H : List Blk) (k : Eff → Prop) : Prop :=
  match a with
  | .tref cs => optE (tyLd P t) fun
    | none => optE cs[0]? fun c => k { v := c }
    | some n => guardE (n ≤ cs.length) (k { v := .agg (cs.take n) })
  | .ref b g i => optE H[b]? fun blk => optE blk.rd fun r => guardE (r.1 = g) (optE (tyLd P t) fun
    | none => optE r.2[i]? fun c => k { v := c, need := [(b, blk)] }
    | some n => guardE (i + n ≤ r.2.length) (k { v := .agg ((r.2.drop i).take n), need := [(b, blk)] }))
  | _ => False

def Blk.cellsOf : Blk → Option (Nat × List AV)
  | .cells g cs => some (g, cs)
  | _ => none

def vcStore (P : Program) (t : TypeId) (a v : AV) (H : List Blk) (k : Eff → Prop) : Prop :=
  match a with
  | .ref b g i => optE H[b]? fun blk => optE blk.cellsOf fun r => guardE (r.1 = g) (optE v.cells fun xs => optE (tySz P t) fun n =>
      guardE (xs.length = n ∧ 0 < n ∧ i + n ≤ r.2.length) (k { v := .junk, need := [(b, .cells g r.2)], upd := some (b, .cells g (over r.2 i xs)) }))
  | _ => False

def vcIndexAddr (P : Program) (t : TypeId) (a ix : AV) (k : Eff → Prop) : Prop :=
  match ix with
  | .int _ i => match a with
    | .sl _ N cs => optE (tyElem P t) fun e => optE (tyE P e) fun z => guardE (0 ≤ i ∧ i < N) (k { v := .tref (cs.drop (i.toNat * z.1.length)) })
    | .hs b g o N _ => optE (tyElem P t) fun e => optE (tyE P e) fun z => guardE (0 ≤ i ∧ i < N) (k { v := .ref b g (o + i.toNat * z.1.length) })
    | .ref b g o => optE (tyArr P t) fun r => guardE (0 ≤ i ∧ i < r.1) (k { v := .ref b g (o + i.toNat * r.2) })
    | _ => False
  | _ => False

def vcBin (P : Program) (op : BinOp) (t : TypeId) (x y : AV) (k : Eff → Prop) : Prop :=
  match x, y with
  | .int ki a, .int kj b => match op with
    | .shl => optE (binSh .shl ki a b) fun v => k { v := v }
    | .shr => optE (binSh .shr ki a b) fun v => k { v := v }
    | op => guardE (ki = kj) (optE (binI op ki a b) fun v => k { v := v })
  | .str a, .str b => match op with
    | .add => guardE (a.length + b.length ≤ 9223372036854775807) (k { v := .str (a ++ b) })
    | op => optE (binS op a b) fun v => k { v := v }
  | .bool a, .bool b => guardE (tyBool P t = true) (optE (binB op a b) fun v => k { v := v })
  | .sl kd N _, .sl .nil 0 [] => match op with
    | .eql => guardE (isSlice P t = true) (optE (kd.isNil N) fun r => k { v := .bool r })
    | _ => False
  | _, _ => False

def vcUn (op : UnOp) (x : AV) (k : Eff → Prop) : Prop :=
  match op, x with
  | .not, .bool b => k { v := .bool (!b) }
  | .neg, .int kd i => k { v := .int kd (kd.wrap (0 - i)) }
  | .xor, .int kd i => k { v := .int kd (kd.wrap ((BitVec.ofInt kd.bits (if kd.signed then -1 else kd.max) ^^^ BitVec.ofInt kd.bits i).toNat)) }
  | _, _ => False

def vcLen (P : Program) (t : TypeId) (x : AV) (k : Eff → Prop) : Prop :=
  match x with
  | .sl _ N _ => guardE (isSlice P t = true) (k { v := .int .i64 N })
  | .hs _ _ _ N _ => guardE (isSlice P t = true) (k { v := .int .i64 N })
  | .str s => guardE (isStr P t = true) (k { v := .int .i64 s.length })
  | _ => False

/-- What is appended: how many elements, and their cells. -/
def vcApp (x : AV) (es : Nat) (H : List Blk) (k : List (Nat × Blk) → Nat → List AV → Prop) : Prop :=
  match x with
  | .sl _ N cs => guardE (cs.length = N * es) (k [] N cs)
  | .hs b g o N es' => guardE (es' = es) (optE H[b]? fun blk => optE blk.rd fun r => guardE (r.1 = g ∧ o + N * es ≤ r.2.length) (k [(b, blk)] N ((r.2.drop o).take (N * es))))
  | .str s => guardE (es = 1) (k [] s.length (bytesA s))
  | _ => False

def vcAppend (P : Program) (t xt : TypeId) (s x : AV) (H : List Blk) (k : Eff → Prop) : Prop :=
  guardE (tyNoInt P xt = true) (optE (tyElem P t) fun e => optE (tyE P e) fun z => match s with
    | .hs b g o N es => guardE (z.1.length = es) (optE H[b]? fun blk => optE blk.cellsOf fun r => guardE (r.1 = g ∧ o + N * es ≤ r.2.length)
        (vcApp x es H fun nd m xs => guardE (N + m ≤ 9223372036854775807 ∧ (N + m) * z.2 ≤ 140737488355328)
          (k { v := .hs b (g + 1) 0 (N + m) es, need := (b, .cells g r.2) :: nd, upd := some (b, .cells (g + 1) ((r.2.drop o).take (N * es) ++ xs)) })))
    | .sl .nil 0 [] => vcApp x z.1.length H fun nd m xs => guardE (m ≤ 9223372036854775807 ∧ m * z.2 ≤ 140737488355328)
          (k { v := .hs H.length 0 0 m z.1.length, need := nd, new := some (.cells 0 xs) })
    | _ => False)

def vcSlice (P : Program) (t : TypeId) (x : AV) (lo hi : Option Int) (k : Eff → Prop) : Prop :=
  match x with
  | .sl kd N cs => optE (tyElem P t) fun e => optE (tyE P e) fun z => guardE (0 ≤ lo.getD 0 ∧ lo.getD 0 ≤ hi.getD (N : Int) ∧ hi.getD (N : Int) ≤ N)
      (k { v := .sl kd.cut ((hi.getD (N : Int)).toNat - (lo.getD 0).toNat) ((cs.drop ((lo.getD 0).toNat * z.1.length)).take (((hi.getD (N : Int)).toNat - (lo.getD 0).toNat) * z.1.length)) })
  | .hs b g o N es => optE (tyElem P t) fun e => optE (tyE P e) fun z => guardE (z.1.length = es) (guardE ((0 ≤ lo.getD 0 ∧ lo.getD 0 ≤ hi.getD (N : Int) ∧ hi.getD (N : Int) ≤ N) ∧ (lo.getD 0 = 0 ∨ lo.getD 0 < hi.getD (N : Int)))
      (k { v := .hs b g (o + (lo.getD 0).toNat * es) ((hi.getD (N : Int)).toNat - (lo.getD 0).toNat) es }))
  | .str s => guardE (isStr P t = true) (guardE (0 ≤ lo.getD 0 ∧ lo.getD 0 ≤ hi.getD (s.length : Int) ∧ hi.getD (s.length : Int) ≤ s.length)
      (k { v := .str ((s.drop (lo.getD 0).toNat).take ((hi.getD (s.length : Int)).toNat - (lo.getD 0).toNat)) }))
  | _ => False

def vcMake (P : Program) (t : TypeId) (x y : AV) (H : List Blk) (k : Eff → Prop) : Prop :=
  match x, y with
  | .int _ l, .int _ c => optE (tyElem P t) fun e => optE (tyE P e) fun z => guardE (0 ≤ l ∧ l ≤ c ∧ (z.2 : Int) * c ≤ 281474976710656 ∧ c ≤ 9223372036854775807)
      (k { v := .hs H.length 0 0 l.toNat z.1.length, new := some (.cells 0 (reps z.1 c.toNat)) })
  | _, _ => False

def vcNext (x : AV) (H : List Blk) (k : Eff → Prop) : Prop :=
  match x with
  | .ref b 0 0 => match H[b]? with
    | some (.siter s pos) => decB (decide (pos < s.length))
        (k { v := .tup [.bool true, .int .i64 pos, .int .i32 (dec s pos).1], need := [(b, .siter s pos)], upd := some (b, .siter s (pos + (dec s pos).2)) })
        (k { v := .tup [.bool false], need := [(b, .siter s pos)] })
    | _ => False
  | _ => False

def vcBuiltin (P : Program) (b : Builtin) (ts : List TypeId) (args : List AV) (H : List Blk) (k : Eff → Prop) : Prop :=
  match b, ts, args with
  | .len, [t], [x] => vcLen P t x k
  | .append, [t, xt], [s, x] => vcAppend P t xt s x H k
  | .max, _, [.int ki i, .int _ j] => k { v := .int ki (if j > i then j else i) }
  | .min, _, [.int ki i, .int _ j] => k { v := .int ki (if j < i then j else i) }
  | _, _, _ => False

/-- The condition that an operation (no call of a function) does something known, and what is said of that holds. -/
def vcOp (P : Program) (o : Op) (ρ : Operand → AV) (H : List Blk) (k : Eff → Prop) : Prop :=
  match o with
  | .move x => k { v := ρ x }
  | .assign x => k { v := ρ x }
  | .pick c x y => match ρ c with | .bool b => decB b (k { v := ρ x }) (k { v := ρ y }) | _ => False
  | .alloc t => optE (tyE P t) fun z => k { v := .ref H.length 0 0, new := some (.cells 0 z.1) }
  | .box _ x => optE (ρ x).cells fun cs => k { v := .ref H.length 0 0, new := some (.cells 0 cs) }
  | .build t parts => optE (tyPl P t) fun r => optE (afill (r.2[·]?) r.1 (evParts ρ parts.toList)) fun out => k { v := .agg out }
  | .buildSlice t N parts => optE (tyElem P t) fun e => optE (tyE P e) fun z => guardE (N * z.1.length ≤ 16777216)
      (optB (Nat.ble N 1) (afill (fun i => some (i * z.1.length, z.1.length)) (reps z.1 N) (evParts ρ parts.toList)) fun out => k { v := .hs H.length 0 0 N z.1.length, new := some (.cells 0 out) })
  | .load t x => vcLoad P t (ρ x) H k
  | .store t x y => vcStore P t (ρ x) (ρ y) H k
  | .nilCheck x => match ρ x with
    | .ref b g i => k { v := .ref b g i }
    | .tref cs => k { v := .tref cs }
    | .fn (.func f) a b => k { v := .fn (.func f) a b }
    | _ => False
  | .binOp op t x y _ => vcBin P op t (ρ x) (ρ y) k
  | .unOp op _ x => vcUn op (ρ x) k
  | .convert s d x => match ρ x with
    | .int _ i => guardE ((P.underlying s).isSome = true) (optE (tyInt P d) fun kd => k { v := .int kd (kd.wrap i) })
    | _ => False
  | .makeInterface t x => guardE (tyConc P t = true) (k { v := .ifc t (ρ x) })
  | .makeFunc f first cap => k { v := .fn f (first.toList.map ρ) (cap.toList.map ρ) }
  | .makeSlice t x y => vcMake P t (ρ x) (ρ y) H k
  | .slice t x lo hi none => optE (optI ρ lo) fun rl => optE (optI ρ hi) fun rh => vcSlice P t (ρ x) rl rh k
  | .fieldAddr s x f => match ρ x with
    | .ref b g i => optE (tyFld P s f) fun off => k { v := .ref b g (i + off) }
    | .tref cs => optE (tyFld P s f) fun off => k { v := .tref (cs.drop off) }
    | _ => False
  | .indexAddr t x i => vcIndexAddr P t (ρ x) (ρ i) k
  | .index t x i => match ρ x, ρ i with
    | .str s, .int _ ix => guardE (isStr P t = true) (guardE (0 ≤ ix) (optE s[ix.toNat]? fun c => k { v := .int .u8 c.toNat }))
    | _, _ => False
  | .range t x => match ρ x with
    | .str s => guardE (isStr P t = true) (k { v := .ref H.length 0 0, new := some (.siter s 0) })
    | _ => False
  | .next x true => vcNext (ρ x) H k
  | .extract x i => match ρ x with | .tup vs => optE vs[i]? fun v => k { v := v } | _ => False
  | .call c => match c.callee with
    | .builtin b => vcBuiltin P b c.argTypes.toList (c.args.toList.map ρ) H k
    | _ => False
  | _ => False

/-- What vcOp gives. -/
def Got (P : Program) (o : Oper) (ρ : Operand → AV) (H : List Blk) (k : Eff → Prop) : Prop :=
  ∃ e, k e ∧ OpSem P o ρ H.length e ∧ (∀ p ∈ e.need, H[p.1]? = some p.2) ∧ (∀ p, e.upd = some p → ∃ y, (p.1, y) ∈ e.need)

theorem got_val {P : Program} {o : Oper} {ρ : Operand → AV} {H : List Blk} {k : Eff → Prop} {v : AV} (h : k { v := v }) (s : OpSem P o ρ H.length { v := v }) : Got P o ρ H k :=
  ⟨_, h, s, by simp, by simp⟩

theorem vcLoad_sound {P : Program} {o : Oper} {ρ : Operand → AV} {H : List Blk} {k : Eff → Prop} {t x} (ho : o.op = .load t x) (h : vcLoad P t (ρ x) H k) : Got P o ρ H k := by
  unfold vcLoad at h
  split at h
  · rename_i cs hx
    replace h := optE_some h
    obtain ⟨r, hr, h⟩ := h
    cases r with
    | none =>
      replace h := optE_some h
      obtain ⟨c, hc, h⟩ := h
      exact got_val h (sem_load_tref ho hx hr hc)
    | some n =>
      replace h := guardE_and h
      obtain ⟨hc, h⟩ := h
      exact got_val h (sem_loadAgg_tref ho hx hr hc)
  · rename_i b g i hx
    replace h := optE_some h
    obtain ⟨blk, hb, h⟩ := h
    replace h := optE_some h
    obtain ⟨⟨g', cs⟩, hrd, h⟩ := h
    replace h := guardE_and h
    obtain ⟨hg, h⟩ := h
    simp only at hg h
    subst hg
    replace h := optE_some h
    obtain ⟨r, hr, h⟩ := h
    cases r with
    | none =>
      replace h := optE_some h
      obtain ⟨c, hc, h⟩ := h
      exact ⟨_, h, sem_load_ref ho hx hr hrd hc, by simpa using hb, by simp⟩
    | some n =>
      replace h := guardE_and h
      obtain ⟨hc, h⟩ := h
      exact ⟨_, h, sem_loadAgg_ref ho hx hr hrd hc, by simpa using hb, by simp⟩
  · exact h.elim

theorem cellsOf_some {blk : Blk} {r : Nat × List AV} (h : blk.cellsOf = some r) : blk = .cells r.1 r.2 := by
  cases blk <;> simp only [Blk.cellsOf, reduceCtorEq, Option.some.injEq] at h
  subst h
  rfl

theorem vcStore_sound {P : Program} {o : Oper} {ρ : Operand → AV} {H : List Blk} {k : Eff → Prop} {t x y} (ho : o.op = .store t x y) (h : vcStore P t (ρ x) (ρ y) H k) : Got P o ρ H k := by
  unfold vcStore at h
  split at h
  · rename_i b g i hx
    replace h := optE_some h
    obtain ⟨blk, hb, h⟩ := h
    replace h := optE_some h
    obtain ⟨⟨g', cs⟩, hrd, h⟩ := h
    replace h := guardE_and h
    obtain ⟨hg, h⟩ := h
    simp only at hg h
    subst hg
    replace h := optE_some h
    obtain ⟨xs, hxs, h⟩ := h
    replace h := optE_some h
    obtain ⟨n, hn, h⟩ := h
    replace h := guardE_and h
    obtain ⟨⟨h1, h2, h3⟩, h⟩ := h
    have hblk := cellsOf_some hrd
    simp only at hblk
    subst hblk
    exact ⟨_, h, sem_store ho hx hxs hn h1 h2 h3, by simpa using hb, by simp⟩
  · exact h.elim

theorem vcIndexAddr_sound {P : Program} {o : Oper} {ρ : Operand → AV} {H : List Blk} {k : Eff → Prop} {t x y} (ho : o.op = .indexAddr t x y) (h : vcIndexAddr P t (ρ x) (ρ y) k) : Got P o ρ H k := by
  unfold vcIndexAddr at h
  split at h
  · rename_i kk i hy
    split at h
    · rename_i hx
      replace h := optE_some h
      obtain ⟨e, he, h⟩ := h
      replace h := optE_some h
      obtain ⟨z, hz, h⟩ := h
      replace h := guardE_and h
      obtain ⟨⟨h0, h1⟩, h⟩ := h
      exact got_val h (sem_indexAddr_sl ho hx hy he hz h0 h1)
    · rename_i hx
      replace h := optE_some h
      obtain ⟨e, he, h⟩ := h
      replace h := optE_some h
      obtain ⟨z, hz, h⟩ := h
      replace h := guardE_and h
      obtain ⟨⟨h0, h1⟩, h⟩ := h
      exact got_val h (sem_indexAddr_hs ho hx hy he hz h0 h1)
    · rename_i hx
      replace h := optE_some h
      obtain ⟨r, he, h⟩ := h
      replace h := guardE_and h
      obtain ⟨⟨h0, h1⟩, h⟩ := h
      exact got_val h (sem_indexAddr_arr ho hx hy he h0 h1)
    · exact h.elim
  · exact h.elim

theorem vcBin_sound {P : Program} {o : Oper} {ρ : Operand → AV} {H : List Blk} {k : Eff → Prop} {op t x y t'} (ho : o.op = .binOp op t x y t') (h : vcBin P op t (ρ x) (ρ y) k) : Got P o ρ H k := by
  unfold vcBin at h
  split at h
  · rename_i ki a kj b hx hy
    split at h
    · replace h := optE_some h
      obtain ⟨v, hv, h⟩ := h
      exact got_val h (sem_binSh ho hx hy hv)
    · replace h := optE_some h
      obtain ⟨v, hv, h⟩ := h
      exact got_val h (sem_binSh ho hx hy hv)
    · replace h := guardE_and h
      obtain ⟨hk, h⟩ := h
      subst hk
      replace h := optE_some h
      obtain ⟨v, hv, h⟩ := h
      exact got_val h (sem_binI ho hx hy hv)
  · rename_i a b hx hy
    split at h
    · replace h := guardE_and h
      obtain ⟨hk, h⟩ := h
      exact got_val h (sem_binS ho hx hy (fun _ => hk) rfl)
    · rename_i hne
      replace h := optE_some h
      obtain ⟨v, hv, h⟩ := h
      exact got_val h (sem_binS ho hx hy (fun e => absurd e hne) hv)
  · rename_i a b hx hy
    replace h := guardE_and h
    obtain ⟨ht, h⟩ := h
    replace h := optE_some h
    obtain ⟨v, hv, h⟩ := h
    exact got_val h (sem_binB ho hx hy (tyBool_some ht) hv)
  · rename_i kd N cs hx hy
    split at h
    · replace h := guardE_and h
      obtain ⟨hs, h⟩ := h
      replace h := optE_some h
      obtain ⟨r, hr, h⟩ := h
      exact got_val h (sem_eqNil_sl ho hx hy hs hr)
    · exact h.elim
  · exact h.elim

theorem vcUn_sound {P : Program} {o : Oper} {ρ : Operand → AV} {H : List Blk} {k : Eff → Prop} {op t x} (ho : o.op = .unOp op t x) (h : vcUn op (ρ x) k) : Got P o ρ H k := by
  unfold vcUn at h
  split at h
  · rename_i hx; exact got_val h (sem_not ho hx)
  · rename_i hx; exact got_val h (sem_neg ho hx)
  · rename_i hx; exact got_val h (sem_inv ho hx)
  · exact h.elim

theorem vcApp_sound {P : Program} {a : AV} {es : Nat} {H : List Blk} {k : List (Nat × Blk) → Nat → List AV → Prop} (h : vcApp a es H k) :
    ∃ nd n xs, k nd n xs ∧ XSem P a es nd n xs ∧ xs.length = n * es ∧ ∀ p ∈ nd, H[p.1]? = some p.2 := by
  unfold vcApp at h
  split at h
  · replace h := guardE_and h
    obtain ⟨h1, h⟩ := h
    exact ⟨_, _, _, h, xsem_sl h1, h1, by simp⟩
  · replace h := guardE_and h
    obtain ⟨h1, h⟩ := h
    subst h1
    replace h := optE_some h
    obtain ⟨blk, hb, h⟩ := h
    replace h := optE_some h
    obtain ⟨⟨g', cs⟩, hrd, h⟩ := h
    replace h := guardE_and h
    obtain ⟨⟨hg, hl⟩, h⟩ := h
    simp only at hg hl h
    subst hg
    exact ⟨_, _, _, h, xsem_hs hrd hl, by simp; omega, by simpa using hb⟩
  · replace h := guardE_and h
    obtain ⟨h1, h⟩ := h
    subst h1
    exact ⟨_, _, _, h, xsem_str, by simp [bytesA], by simp⟩
  · exact h.elim

theorem vcSlice_sound {P : Program} {o : Oper} {ρ : Operand → AV} {H : List Blk} {k : Eff → Prop} {t x lo hi rl rh} (ho : o.op = .slice t x lo hi none) (hl : optI ρ lo = some rl) (hh : optI ρ hi = some rh)
    (h : vcSlice P t (ρ x) rl rh k) : Got P o ρ H k := by
  unfold vcSlice at h
  split at h
  · rename_i hx
    replace h := optE_some h
    obtain ⟨e, he, h⟩ := h
    replace h := optE_some h
    obtain ⟨z, hz, h⟩ := h
    replace h := guardE_and h
    obtain ⟨⟨h0, h1, h2⟩, h⟩ := h
    exact got_val h (sem_slice_sl ho hx hl hh he hz h0 h1 h2)
  · rename_i hx
    replace h := optE_some h
    obtain ⟨e, he, h⟩ := h
    replace h := optE_some h
    obtain ⟨z, hz, h⟩ := h
    replace h := guardE_and h
    obtain ⟨hs, h⟩ := h
    replace h := guardE_and h
    obtain ⟨⟨⟨h0, h1, h2⟩, h3⟩, h⟩ := h
    exact got_val h (sem_slice_hs ho hx hl hh he hz hs h0 h1 h2 h3)
  · rename_i hx
    replace h := guardE_and h
    obtain ⟨ht, h⟩ := h
    replace h := guardE_and h
    obtain ⟨⟨h0, h1, h2⟩, h⟩ := h
    exact got_val h (sem_slice_str ho hx hl hh ht h0 h1 h2)
  · exact h.elim

theorem arr1 {α : Type} {a : Array α} {x : α} (h : a.toList = [x]) : a = #[x] := by cases a; simp at h; subst h; rfl
theorem arr2 {α : Type} {a : Array α} {x y : α} (h : a.toList = [x, y]) : a = #[x, y] := by cases a; simp at h; subst h; rfl

theorem map1 {α β : Type} {f : α → β} {l : List α} {y : β} (h : l.map f = [y]) : ∃ x, l = [x] ∧ f x = y := by
  match l, h with
  | [x], h => exact ⟨x, rfl, by simpa using h⟩
theorem map2 {α β : Type} {f : α → β} {l : List α} {y z : β} (h : l.map f = [y, z]) : ∃ x x', l = [x, x'] ∧ f x = y ∧ f x' = z := by
  match l, h with
  | [x, x'], h => simp at h; exact ⟨x, x', rfl, h.1, h.2⟩

theorem vcBuiltin_sound {P : Program} {o : Oper} {ρ : Operand → AV} {H : List Blk} {k : Eff → Prop} {c : Call} {b : Builtin} (ho : o.op = .call c) (hc : c.callee = .builtin b)
    (h : vcBuiltin P b c.argTypes.toList (c.args.toList.map ρ) H k) : Got P o ρ H k := by
  unfold vcBuiltin at h
  split at h
  · rename_i t x hts hargs
    obtain ⟨x', hx', rfl⟩ := map1 hargs
    have ha := arr1 hx'
    have ht := arr1 hts
    unfold vcLen at h
    split at h
    · rename_i hx
      replace h := guardE_and h
      obtain ⟨hs, h⟩ := h
      exact got_val h (sem_len_sl ho hc ha t (by rw [ht]; rfl) hs hx)
    · rename_i hx
      replace h := guardE_and h
      obtain ⟨hs, h⟩ := h
      exact got_val h (sem_len_hs ho hc ha t (by rw [ht]; rfl) hs hx)
    · rename_i hx
      replace h := guardE_and h
      obtain ⟨hs, h⟩ := h
      exact got_val h (sem_len_str ho hc ha t (by rw [ht]; rfl) hs hx)
    · exact h.elim
  · rename_i t xt s x hts hargs
    obtain ⟨s', x', hx', rfl, rfl⟩ := map2 hargs
    have ha := arr2 hx'
    have ht := arr2 hts
    unfold vcAppend at h
    replace h := guardE_and h
    obtain ⟨hno, h⟩ := h
    replace h := optE_some h
    obtain ⟨e, he, h⟩ := h
    replace h := optE_some h
    obtain ⟨⟨z, by'⟩, hz, h⟩ := h
    split at h
    · rename_i b g i N es hs
      replace h := guardE_and h
      obtain ⟨hes, h⟩ := h
      replace h := optE_some h
      obtain ⟨blk, hb, h⟩ := h
      replace h := optE_some h
      obtain ⟨⟨g', cs⟩, hrd, h⟩ := h
      replace h := guardE_and h
      obtain ⟨⟨hg, hl⟩, h⟩ := h
      simp only at hg hl h hes
      subst hg
      have hblk := cellsOf_some hrd
      simp only at hblk
      subst hblk
      obtain ⟨nd, m, xs, h, hx, hxl, hnd⟩ := vcApp_sound (P := P) h
      replace h := guardE_and h
      obtain ⟨⟨h1, h2⟩, h⟩ := h
      refine ⟨_, h, sem_append_hs ho hc ha ht he hz hno hs hes hl hx hxl h1 h2, ?_, ?_⟩
      · simp only [List.mem_cons]
        rintro p (rfl | hp)
        · exact hb
        · exact hnd p hp
      · intro p hp
        simp only [Option.some.injEq] at hp
        subst hp
        exact ⟨_, List.mem_cons_self⟩
    · rename_i hs
      obtain ⟨nd, m, xs, h, hx, hxl, hnd⟩ := vcApp_sound (P := P) h
      replace h := guardE_and h
      obtain ⟨⟨h1, h2⟩, h⟩ := h
      exact ⟨_, h, sem_append_nil ho hc ha ht he hz hno hs rfl hx hxl h1 h2, hnd, by simp⟩
    · exact h.elim
  · rename_i ts ki i kj j hargs
    obtain ⟨x, y, hxy, hx, hy⟩ := map2 hargs
    exact got_val h (sem_max ho hc (arr2 hxy) hx hy)
  · rename_i ts ki i kj j hargs
    obtain ⟨x, y, hxy, hx, hy⟩ := map2 hargs
    exact got_val h (sem_min ho hc (arr2 hxy) hx hy)
  · exact h.elim

theorem vcOp_sound {P : Program} {o : Oper} {ρ : Operand → AV} {H : List Blk} {k : Eff → Prop} (h : vcOp P o.op ρ H k) : Got P o ρ H k := by
  unfold vcOp at h
  split at h
  · rename_i ho; exact got_val h (sem_move (.inl ho))
  · rename_i ho; exact got_val h (sem_move (.inr ho))
  · rename_i ho
    split at h
    · rename_i b hc
      have hs := fun n => sem_pick (P := P) (n := n) ho hc
      rcases decB_or h with ⟨rfl, h⟩ | ⟨rfl, h⟩
      · exact got_val h (hs _)
      · exact got_val h (hs _)
    · exact h.elim
  · rename_i ho
    replace h := optE_some h
    obtain ⟨⟨z, by'⟩, hz, h⟩ := h
    exact ⟨_, h, sem_alloc ho hz, by simp, by simp⟩
  · rename_i ho
    replace h := optE_some h
    obtain ⟨cs, hc, h⟩ := h
    exact ⟨_, h, sem_box ho hc, by simp, by simp⟩
  · rename_i ho
    replace h := optE_some h
    obtain ⟨⟨z, ps⟩, hp, h⟩ := h
    replace h := optE_some h
    obtain ⟨out, hf, h⟩ := h
    exact got_val h (sem_build ho hp hf)
  · rename_i ho
    replace h := optE_some h
    obtain ⟨e, he, h⟩ := h
    replace h := optE_some h
    obtain ⟨⟨z, by'⟩, hz, h⟩ := h
    replace h := guardE_and h
    obtain ⟨hs, h⟩ := h
    replace h := optE_some (optB_out h)
    obtain ⟨out, hf, h⟩ := h
    exact ⟨_, h, sem_buildSlice ho he hz hs hf, by simp, by simp⟩
  · rename_i ho; exact vcLoad_sound ho h
  · rename_i ho; exact vcStore_sound ho h
  · rename_i ho
    split at h
    · rename_i hx; rw [← hx] at h; exact got_val h (sem_nilCheck ho (.inl ⟨_, _, _, hx⟩))
    · rename_i hx; rw [← hx] at h; exact got_val h (sem_nilCheck ho (.inr (.inl ⟨_, hx⟩)))
    · rename_i hx; rw [← hx] at h; exact got_val h (sem_nilCheck ho (.inr (.inr ⟨_, _, _, hx⟩)))
    · exact h.elim
  · rename_i ho; exact vcBin_sound ho h
  · rename_i ho; exact vcUn_sound ho h
  · rename_i ho
    split at h
    · rename_i hx
      replace h := guardE_and h
      obtain ⟨h1, h⟩ := h
      replace h := optE_some h
      obtain ⟨kd, h2, h⟩ := h
      exact got_val h (sem_convInt ho hx h1 h2)
    · exact h.elim
  · rename_i ho
    replace h := guardE_and h
    obtain ⟨h1, h⟩ := h
    exact got_val h (sem_makeInterface ho h1)
  · rename_i ho; exact got_val h (sem_makeFunc ho)
  · rename_i ho
    unfold vcMake at h
    split at h
    · rename_i hx hy
      replace h := optE_some h
      obtain ⟨e, he, h⟩ := h
      replace h := optE_some h
      obtain ⟨⟨z, by'⟩, hz, h⟩ := h
      replace h := guardE_and h
      obtain ⟨⟨h0, h1, h2, h3⟩, h⟩ := h
      exact ⟨_, h, sem_makeSlice ho hx hy he hz h0 h1 h2 h3, by simp, by simp⟩
    · exact h.elim
  · rename_i ho
    replace h := optE_some h
    obtain ⟨rl, h1, h⟩ := h
    replace h := optE_some h
    obtain ⟨rh, h2, h⟩ := h
    exact vcSlice_sound ho h1 h2 h
  · rename_i ho
    split at h
    · rename_i hx
      replace h := optE_some h
      obtain ⟨off, h1, h⟩ := h
      exact got_val h (sem_fieldAddr_ref ho hx h1)
    · rename_i hx
      replace h := optE_some h
      obtain ⟨off, h1, h⟩ := h
      exact got_val h (sem_fieldAddr_tref ho hx h1)
    · exact h.elim
  · rename_i ho; exact vcIndexAddr_sound ho h
  · rename_i ho
    split at h
    · rename_i hx hy
      replace h := guardE_and h
      obtain ⟨h1, h⟩ := h
      replace h := guardE_and h
      obtain ⟨h2, h⟩ := h
      replace h := optE_some h
      obtain ⟨c, h3, h⟩ := h
      exact got_val h (sem_index_str ho hx hy h1 h2 h3)
    · exact h.elim
  · rename_i ho
    split at h
    · rename_i hx
      replace h := guardE_and h
      obtain ⟨h1, h⟩ := h
      exact ⟨_, h, sem_range_str ho hx h1, by simp, by simp⟩
    · exact h.elim
  · rename_i ho
    unfold vcNext at h
    split at h
    · rename_i b hx
      split at h
      · rename_i s pos hb
        rcases decB_or h with ⟨h1, h⟩ | ⟨h1, h⟩
        · exact ⟨_, h, sem_next_some ho hx (by simpa using h1), by simpa using hb, by simp⟩
        · exact ⟨_, h, sem_next_end ho hx (by simpa using h1), by simpa using hb, by simp⟩
      · exact h.elim
    · exact h.elim
  · rename_i ho
    split at h
    · rename_i hx
      replace h := optE_some h
      obtain ⟨v, h1, h⟩ := h
      exact got_val h (sem_extract ho hx h1)
    · exact h.elim
  · rename_i c ho
    split at h
    · rename_i b hc
      exact vcBuiltin_sound ho hc h
    · exact h.elim
  · exact h.elim

end Tab
