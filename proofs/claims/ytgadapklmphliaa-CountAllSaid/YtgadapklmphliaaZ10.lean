/- Lemmas for this claim: part 10. No condition. -/
import Derived.Test.YtgadapklmphliaaZ9
import Derived.Test.YtgadapklmphliaaProg
set_option linter.unusedVariables false
set_option linter.unusedSimpArgs false
set_option linter.unusedSectionVars false
/- Nothing is asked of package-level variables. -/
namespace Tab
open Go

instance noGlobs : Globs := ⟨fun _ => .junk, fun _ _ _ _ _ _ _ => by simp only [VRel]⟩
theorem noGlobs_all (W : World) : GRel m₀ (fun cb => cb < W.heap.size) W := fun _ => by show VRel _ _ _ .junk _; simp only [VRel]

end Tab

/- Numbers by digits of 16 bits: plain. -/
namespace Tab
open Go
set_option maxRecDepth 10000
set_option linter.unusedVariables false
set_option linter.unusedSimpArgs false
set_option linter.unusedSectionVars false

def digs (n : Nat) : List Nat := if h : n = 0 then [] else n % 65536 :: digs (n / 65536)
termination_by n
decreasing_by omega
theorem digs_zero : digs 0 = [] := by rw [digs]; simp
theorem digs_pos {n : Nat} (h : n ≠ 0) : digs n = n % 65536 :: digs (n / 65536) := by rw [digs, dif_neg h]
theorem digs_get : ∀ (i n : Nat), (digs n)[i]?.getD 0 = n / 65536 ^ i % 65536
  | i, n => by
    by_cases h : n = 0
    · subst h; rw [digs_zero]; simp
    · rw [digs_pos h]
      cases i with
      | zero => simp
      | succ i =>
        rw [List.getElem?_cons_succ, digs_get i (n / 65536), Nat.div_div_eq_div_mul, Nat.pow_succ, Nat.mul_comm]
theorem digs_lt : ∀ (n : Nat), ∀ d ∈ digs n, d < 65536 := by
  intro n
  induction n using Nat.strongRecOn with
  | _ n ih =>
    intro d hd
    by_cases h : n = 0
    · subst h; rw [digs_zero] at hd; simp at hd
    · rw [digs_pos h] at hd
      rcases List.mem_cons.1 hd with rfl | hd
      · exact Nat.mod_lt _ (by decide)
      · exact ih _ (by omega) d hd
theorem digs_len {k : Nat} : ∀ {n : Nat}, n < 65536 ^ k → (digs n).length ≤ k := by
  induction k with
  | zero => intro n h; have : n = 0 := by simpa using h
            subst this; rw [digs_zero]; simp
  | succ k ih =>
    intro n h
    by_cases h0 : n = 0
    · subst h0; rw [digs_zero]; simp
    · rw [digs_pos h0, List.length_cons]
      have := ih (n := n / 65536) (by rw [Nat.div_lt_iff_lt_mul (by decide)]; rwa [Nat.pow_succ] at h)
      omega
theorem digs_big {n : Nat} (k : Nat) (h : (digs n).length ≤ k) : n < 65536 ^ k := by
  induction k generalizing n with
  | zero =>
    by_cases h0 : n = 0
    · subst h0; simp
    · rw [digs_pos h0] at h; simp at h
  | succ k ih =>
    by_cases h0 : n = 0
    · subst h0; exact Nat.pow_pos (by decide)
    · rw [digs_pos h0, List.length_cons] at h
      have := ih (n := n / 65536) (by omega)
      rw [Nat.div_lt_iff_lt_mul (by decide)] at this
      rwa [Nat.pow_succ]

def valD : List Nat → Nat
  | [] => 0
  | d :: l => d + 65536 * valD l
theorem valD_snoc (l : List Nat) (d : Nat) : valD (l ++ [d]) = valD l + 65536 ^ l.length * d := by
  induction l with
  | nil => simp [valD]
  | cons x l ih =>
    simp only [List.cons_append, valD, ih, List.length_cons, Nat.pow_succ, Nat.mul_add, ← Nat.mul_assoc]
    rw [Nat.mul_comm 65536 (65536 ^ l.length)]; omega
/-- Digits without a nought at the top. -/
theorem digs_val : ∀ {l : List Nat}, (∀ d ∈ l, d < 65536) → l.getLast? ≠ some 0 → digs (valD l) = l
  | [], _, _ => by rw [valD, digs_zero]
  | d :: l, h, h0 => by
    have hd := h d (by simp)
    have ih := digs_val (l := l) (fun x hx => h x (by simp [hx])) (by
      cases l with
      | nil => simp
      | cons y l => simpa using h0)
    have hne : valD (d :: l) ≠ 0 := by
      rw [valD]
      cases l with
      | nil => simp at h0; omega
      | cons y l =>
        have : valD (y :: l) ≠ 0 := fun e => by rw [e, digs_zero] at ih; simp at ih
        omega
    rw [digs_pos hne, valD, Nat.add_mul_mod_self_left, Nat.mod_eq_of_lt hd, Nat.add_mul_div_left _ _ (by decide), Nat.div_eq_of_lt hd, Nat.zero_add, ih]
/-- How many digits are left when noughts at the top are left away. -/
def trL (l : List Nat) : Nat → Nat
  | 0 => 0
  | n + 1 => if l[n]? = some 0 then trL l n else n + 1
theorem trL_append (l m : List Nat) : ∀ {n}, n ≤ l.length → trL (l ++ m) n = trL l n
  | 0, _ => rfl
  | n + 1, h => by rw [trL, trL, List.getElem?_append_left (by omega), trL_append l m (by omega)]
theorem trim_digs : ∀ (k : Nat) (l : List Nat), l.length = k → (∀ d ∈ l, d < 65536) → l.take (trL l l.length) = digs (valD l)
  | 0, l, hk, h => by
    have : l = [] := List.length_eq_zero_iff.1 hk
    subst this; rw [valD, digs_zero]; rfl
  | k + 1, l, hk, h => by
    have hne : l ≠ [] := by intro e; subst e; simp at hk
    obtain ⟨m, x, rfl⟩ : ∃ m x, l = m ++ [x] := ⟨l.dropLast, l.getLast hne, (List.dropLast_concat_getLast hne).symm⟩
    have hm : m.length = k := by simpa using hk
    rw [List.length_append, List.length_singleton, trL, List.getElem?_append_right (Nat.le_refl _), Nat.sub_self]
    by_cases hx : x = 0
    · subst hx
      rw [if_pos (by simp), trL_append m [0] (Nat.le_refl _), valD_snoc, Nat.mul_zero, Nat.add_zero, ← trim_digs k m hm (fun d hd => h d (by simp [hd]))]
      have hle : ∀ n, trL m n ≤ n := fun n => by
        induction n with
        | zero => exact Nat.le_refl _
        | succ n ih => rw [trL]; split <;> omega
      rw [List.take_append_of_le_length (hle _)]
    · rw [if_neg (by simpa using hx), List.take_of_length_le (by simp), digs_val h (by simpa using hx)]
theorem trL_le (l : List Nat) : ∀ n, trL l n ≤ n
  | 0 => Nat.le_refl _
  | n + 1 => by rw [trL]; have := trL_le l n; split <;> omega
theorem valD_digs (n : Nat) : valD (digs n) = n := by
  induction n using Nat.strongRecOn with
  | _ n ih =>
    by_cases h : n = 0
    · subst h; rw [digs_zero]; rfl
    · rw [digs_pos h, valD, ih _ (by omega)]; omega

/-- The first digits of a number. -/
def firD (n i : Nat) : List Nat := (List.range i).map fun j => n / 65536 ^ j % 65536
theorem firD_succ (n i) : firD n (i + 1) = firD n i ++ [n / 65536 ^ i % 65536] := by simp [firD, List.range_succ]
theorem firD_length (n i) : (firD n i).length = i := by simp [firD]
theorem firD_lt (n i) : ∀ d ∈ firD n i, d < 65536 := by
  intro d hd
  obtain ⟨j, _, rfl⟩ := List.mem_map.1 hd
  exact Nat.mod_lt _ (by decide)
theorem mod_succ (n i : Nat) : n % 65536 ^ (i + 1) = n % 65536 ^ i + 65536 ^ i * (n / 65536 ^ i % 65536) := by rw [Nat.pow_succ, Nat.mod_mul]
theorem firD_val (n : Nat) : ∀ i, valD (firD n i) = n % 65536 ^ i
  | 0 => by simp [firD, valD, Nat.mod_one]
  | i + 1 => by rw [firD_succ, valD_snoc, firD_val n i, firD_length, mod_succ]

/-! ### Sums -/
def carD (a b i : Nat) : Nat := (a % 65536 ^ i + b % 65536 ^ i) / 65536 ^ i
theorem carD_zero (a b) : carD a b 0 = 0 := by simp [carD, Nat.mod_one]
theorem carD_le (a b i) : carD a b i ≤ 1 := by
  have hp : 0 < 65536 ^ i := Nat.pow_pos (by decide)
  have h1 := Nat.mod_lt a hp
  have h2 := Nat.mod_lt b hp
  have : carD a b i < 2 := (Nat.div_lt_iff_lt_mul hp).2 (by omega)
  omega
theorem add_digit (a b i : Nat) : (a / 65536 ^ i % 65536 + b / 65536 ^ i % 65536 + carD a b i) % 65536 = (a + b) / 65536 ^ i % 65536 ∧ (a / 65536 ^ i % 65536 + b / 65536 ^ i % 65536 + carD a b i) / 65536 = carD a b (i + 1) := by
  have hp : 0 < 65536 ^ i := Nat.pow_pos (by decide)
  constructor
  · have e : (a + b) / 65536 ^ i = carD a b i + (a / 65536 ^ i + b / 65536 ^ i) := by
      have h1 := Nat.div_add_mod a (65536 ^ i)
      have h2 := Nat.div_add_mod b (65536 ^ i)
      have : a + b = (a % 65536 ^ i + b % 65536 ^ i) + 65536 ^ i * (a / 65536 ^ i + b / 65536 ^ i) := by rw [Nat.mul_add]; omega
      rw [this, Nat.add_mul_div_left _ _ hp, carD]
    rw [e]; omega
  · rw [carD, carD, mod_succ, mod_succ]
    have e : a % 65536 ^ i + 65536 ^ i * (a / 65536 ^ i % 65536) + (b % 65536 ^ i + 65536 ^ i * (b / 65536 ^ i % 65536)) = (a % 65536 ^ i + b % 65536 ^ i) + 65536 ^ i * (a / 65536 ^ i % 65536 + b / 65536 ^ i % 65536) := by rw [Nat.mul_add]; omega
    rw [e, Nat.pow_succ, ← Nat.div_div_eq_div_mul, Nat.add_mul_div_left _ _ hp]
    congr 1; omega
theorem add_done {a b i : Nat} (ha : a < 65536 ^ i) (hb : b < 65536 ^ i) (hc : carD a b i = 0) : valD (firD (a + b) i) = a + b := by
  rw [firD_val, Nat.mod_eq_of_lt]
  rw [carD, Nat.mod_eq_of_lt ha, Nat.mod_eq_of_lt hb, Nat.div_eq_zero_iff] at hc
  rcases hc with h | h
  · have : 0 < 65536 ^ i := Nat.pow_pos (by decide)
    omega
  · exact h

/-! ### Differences -/
def borD (a b i : Nat) : Nat := if a % 65536 ^ i < b % 65536 ^ i then 1 else 0
theorem borD_zero (a b) : borD a b 0 = 0 := by simp [borD, Nat.mod_one]
theorem borD_le (a b i) : borD a b i ≤ 1 := by rw [borD]; split <;> omega
theorem sub_digit {a b : Nat} (h : b ≤ a) (i : Nat) : (a / 65536 ^ i % 65536 + 65536 - b / 65536 ^ i % 65536 - borD a b i) % 65536 = (a - b) / 65536 ^ i % 65536 ∧ 1 - (a / 65536 ^ i % 65536 + 65536 - b / 65536 ^ i % 65536 - borD a b i) / 65536 = borD a b (i + 1) := by
  have hp : 0 < 65536 ^ i := Nat.pow_pos (by decide)
  have ha := Nat.div_add_mod a (65536 ^ i)
  have hb := Nat.div_add_mod b (65536 ^ i)
  have la := Nat.mod_lt a hp
  have lb := Nat.mod_lt b hp
  have hq : b / 65536 ^ i ≤ a / 65536 ^ i := Nat.div_le_div_right h
  constructor
  · have e : (a - b) / 65536 ^ i = a / 65536 ^ i - b / 65536 ^ i - borD a b i := by
      rw [borD]
      split
      · rename_i hlt
        have hlt2 : b / 65536 ^ i < a / 65536 ^ i := by
          rcases Nat.lt_or_ge (b / 65536 ^ i) (a / 65536 ^ i) with h1 | h1
          · exact h1
          · have : a / 65536 ^ i = b / 65536 ^ i := by omega
            rw [this] at ha; omega
        obtain ⟨k, hk⟩ : ∃ k, a / 65536 ^ i = b / 65536 ^ i + 1 + k := ⟨_, (Nat.add_sub_cancel' hlt2).symm⟩
        have : a - b = (65536 ^ i + a % 65536 ^ i - b % 65536 ^ i) + 65536 ^ i * k := by rw [hk, Nat.mul_add, Nat.mul_add] at ha; omega
        rw [this, Nat.add_mul_div_left _ _ hp, Nat.div_eq_of_lt (by omega), hk]; omega
      · rename_i hlt
        obtain ⟨k, hk⟩ : ∃ k, a / 65536 ^ i = b / 65536 ^ i + k := ⟨_, (Nat.add_sub_cancel' hq).symm⟩
        have : a - b = (a % 65536 ^ i - b % 65536 ^ i) + 65536 ^ i * k := by rw [hk, Nat.mul_add] at ha; omega
        rw [this, Nat.add_mul_div_left _ _ hp, Nat.div_eq_of_lt (by omega), hk]; omega
    rw [e]
    have := borD_le a b i
    have hbo : borD a b i ≤ a / 65536 ^ i - b / 65536 ^ i := by
      rw [borD]
      split
      · rename_i hlt
        rcases Nat.lt_or_ge (b / 65536 ^ i) (a / 65536 ^ i) with h1 | h1
        · omega
        · have : a / 65536 ^ i = b / 65536 ^ i := by omega
          rw [this] at ha; omega
      · omega
    omega
  · have e1 := mod_succ a i
    have e2 := mod_succ b i
    have hx : a / 65536 ^ i % 65536 < 65536 ∧ b / 65536 ^ i % 65536 < 65536 := ⟨Nat.mod_lt _ (by decide), Nat.mod_lt _ (by decide)⟩
    generalize a / 65536 ^ i % 65536 = x at *
    generalize b / 65536 ^ i % 65536 = y at *
    have key : a % 65536 ^ (i + 1) < b % 65536 ^ (i + 1) ↔ x < y + borD a b i := by
      rw [e1, e2, borD]
      split
      · rename_i hlt
        constructor
        · intro h1
          rcases Nat.lt_or_ge y x with h2 | h2
          · have : 65536 ^ i * (y + 1) ≤ 65536 ^ i * x := Nat.mul_le_mul_left _ h2
            rw [Nat.mul_add] at this; omega
          · omega
        · intro h1
          have : 65536 ^ i * x ≤ 65536 ^ i * y := Nat.mul_le_mul_left _ (by omega)
          omega
      · rename_i hlt
        constructor
        · intro h1
          rcases Nat.lt_or_ge x y with h2 | h2
          · omega
          · have : 65536 ^ i * y ≤ 65536 ^ i * x := Nat.mul_le_mul_left _ h2
            omega
        · intro h1
          have : 65536 ^ i * (x + 1) ≤ 65536 ^ i * y := Nat.mul_le_mul_left _ (by omega)
          rw [Nat.mul_add] at this; omega
    have hb := borD_le a b i
    rw [show borD a b (i + 1) = if a % 65536 ^ (i + 1) < b % 65536 ^ (i + 1) then 1 else 0 from rfl]
    generalize borD a b i = c at *
    by_cases h1 : x < y + c
    · rw [if_pos (key.2 h1)]; omega
    · rw [if_neg (fun h => h1 (key.1 h))]; omega
theorem sub_done {a b i : Nat} (ha : a < 65536 ^ i) : valD (firD (a - b) i) = a - b := by
  rw [firD_val, Nat.mod_eq_of_lt (by omega)]

/-! ### Comparing -/
theorem div_step (a i : Nat) : a / 65536 ^ i = a / 65536 ^ (i + 1) * 65536 + a / 65536 ^ i % 65536 := by
  rw [Nat.pow_succ, ← Nat.div_div_eq_div_mul]; omega
theorem cmp_lt {a b i : Nat} (h : a / 65536 ^ (i + 1) = b / 65536 ^ (i + 1)) (h2 : a / 65536 ^ i % 65536 < b / 65536 ^ i % 65536) : a < b := by
  have h3 : a / 65536 ^ i < b / 65536 ^ i := by rw [div_step a i, div_step b i, h]; omega
  rcases Nat.lt_or_ge a b with h4 | h4
  · exact h4
  · have := Nat.div_le_div_right (c := 65536 ^ i) h4; omega
theorem cmp_eq {a b i : Nat} (h : a / 65536 ^ (i + 1) = b / 65536 ^ (i + 1)) (h2 : a / 65536 ^ i % 65536 = b / 65536 ^ i % 65536) : a / 65536 ^ i = b / 65536 ^ i := by
  rw [div_step a i, div_step b i, h, h2]

end Tab

/- tabardref01.Wide: digit, trimmed, plus. -/
namespace Tab
open Go Go.Proofs
set_option maxRecDepth 10000
set_option linter.unusedVariables false
set_option linter.unusedSimpArgs false
set_option linter.unusedSectionVars false

/-- A call with memory that is given away by it: one block. -/
theorem callLd {P : Program} {f : FuncId} {args as0 bs : List AV} {v : AV} {H : List Blk} {X : Out → List Blk → Prop} {g : Nat} {cs : List AV} (b : Nat) (hb : H[b]? = some (.cells g cs)) (h : Pure P f args v) (hr : Rds [.cells g cs] as0 args)
    (hcs : closeds cs) (ba : bels 1 as0) (has : bs = rns (rnB [b] H.length) as0) (k : X (.ret v) (place (rnB [b] H.length) [b] H [.dead])) : ∃ R : Out → List Blk → Prop, ACall P f bs H R ∧ ∀ o H', R o H' → X o H' := by
  have hlt := (List.getElem?_eq_some_iff.1 hb).1
  refine callF [b] (h.lend hr) (by simp) (by intro x hx; simp at hx; omega) rfl ?_ ba ?_ has ?_
  · simp only [List.map_cons, List.map_nil, hb, Blk.rn, closeds_rn _ hcs]
  · exact ⟨bels_iff.2 fun a ha => AV.closed_bel _ (closeds_iff.1 hcs a ha), trivial⟩
  · rintro o H' ⟨rfl, rfl⟩
    rw [Out.rn, AV.closed_rn _ h.cval]
    exact k

def uW (l : List Nat) : List AV := l.map fun d => .int .u64 (d : Nat)
theorem uW_length (l) : (uW l).length = l.length := by simp [uW]
theorem uW_closed (l) : closeds (uW l) := by
  rw [closeds_iff]; intro a ha; obtain ⟨r, _, rfl⟩ := List.mem_map.1 ha; trivial
theorem uW_bel (m l) : bels m (uW l) := bels_iff.2 fun a ha => AV.closed_bel _ (closeds_iff.1 (uW_closed l) a ha)
theorem uW_get (l : List Nat) (i : Nat) : (uW l)[i]? = (l[i]?).map fun d => .int .u64 (d : Nat) := by simp [uW]
theorem uW_snoc (l : List Nat) (d : Nat) : uW (l ++ [d]) = uW l ++ [.int .u64 (d : Nat)] := by simp [uW]
def wS (l : List Nat) : AV := .sl .any l.length (uW l)
@[simp] theorem wS_closed (l) : (wS l).closed := uW_closed l
def wdA (neg : Bool) (l : List Nat) : AV := .agg [.bool neg, wS l]
theorem wdA_closed (neg l) : (wdA neg l).closed := by simp [wdA, AV.closed, closeds]

theorem u64_low (n : Nat) : IntKind.wrap .u64 ((BitVec.ofInt (IntKind.bits .u64) (n : Int) &&& BitVec.ofInt (IntKind.bits .u64) 65535).toNat) = ((n % 65536 : Nat) : Int) := by
  have h1 : (BitVec.ofInt (IntKind.bits .u64) (n : Int) &&& BitVec.ofInt (IntKind.bits .u64) 65535).toNat = n % 65536 := by
    rw [BitVec.toNat_and]
    have e1 : (BitVec.ofInt (IntKind.bits .u64) (n : Int)).toNat = n % 2 ^ 64 := by
      rw [show IntKind.bits .u64 = 64 from rfl, BitVec.toNat_ofInt]; omega
    have e2 : (BitVec.ofInt (IntKind.bits .u64) 65535).toNat = 65535 := rfl
    rw [e1, e2, show (65535 : Nat) = 2 ^ 16 - 1 from rfl, Nat.and_two_pow_sub_one_eq_mod]
    omega
  rw [h1, IntWalk.u64_in _ (by omega)]
theorem shr_nat' (n k : Nat) (hk : k ≤ 64) : (n : Int).fdiv (2 ^ (min (k : Int).toNat 64)) = ((n / 2 ^ k : Nat) : Int) := by
  rw [show min (k : Int).toNat 64 = k by simp; omega, show (2 : Int) ^ k = ((2 ^ k : Nat) : Int) by simp]
  rw [Int.fdiv_eq_ediv_of_nonneg _ (Int.natCast_nonneg _)]
  rfl

theorem wd_digit (neg : Bool) (l : List Nat) (i : Nat) (hi : i < 2 ^ 60) (hl : l.length < 2 ^ 60) : Pure Try.prog 117 [wdA neg l, .int .i64 (i : Nat)] (.int .u64 (l[i]?.getD 0 : Nat)) := by
  have hul := uW_length l
  refine Pure.of_sw 15 Try.func117 rfl Try.ntmps117 (by kernel_rfl) (Nat.le_of_ble_eq_true (by kernel_rfl)) (by simp [closeds, wdA_closed, AV.closed]) (by simp [closeds, wdA_closed, AV.closed]) ?_; refine SW.of_vc ?_
  repeat first | refine opsStep ?_ | refine codeStep ?_ | refine drawStep ?_
  refine decB_dec (fun h => ?_) (fun h => ?_)
  · have hil : i < l.length := by have h : ((i : Nat) : Int) < ((l.length : Nat) : Int) := h; omega
    have hg : (uW l)[i]? = some (.int .u64 (l[i] : Nat)) := by simp [uW, hil]
    repeat first | refine opsStep ?_ | refine codeStep ?_ | refine drawStep ?_
    refine guardE_of (by show (0 : Int) ≤ ((i : Nat) : Int) ∧ ((i : Nat) : Int) < ((l.length : Nat) : Int); omega) ?_
    repeat first | refine opsStep ?_ | refine codeStep ?_ | refine drawStep ?_
    refine optE_of (c := .int .u64 (l[i] : Nat)) (by simpa [Value.cells] using hg) ?_
    repeat first | refine opsStep ?_ | refine codeStep ?_ | refine drawStep ?_
    exact finV (v' := .int .u64 (l[i] : Nat)) (by kernel_rfl) (by rw [List.getElem?_eq_getElem hil]; rfl)
  · have hil : ¬ i < l.length := fun hh => h (show ((i : Nat) : Int) < ((l.length : Nat) : Int) by omega)
    repeat first | refine opsStep ?_ | refine codeStep ?_ | refine drawStep ?_
    exact finV (v' := .int .u64 0) (by kernel_rfl) (by rw [List.getElem?_eq_none (by omega)]; rfl)

theorem wd_trimmed (neg : Bool) (l : List Nat) (hl : l.length < 2 ^ 60) : Pure Try.prog 86 [wdA neg l] (wdA (neg && decide (0 < trL l l.length)) (l.take (trL l l.length))) := by
  have hul := uW_length l
  obtain ⟨t, ht⟩ : ∃ t, trL l l.length = t := ⟨_, rfl⟩
  have htl : t ≤ l.length := by rw [← ht]; exact trL_le _ _
  rw [ht]
  refine Pure.of_sw 32 Try.func86 rfl Try.ntmps86 (by kernel_rfl) (Nat.le_of_ble_eq_true (by kernel_rfl)) (by simp [closeds, wdA_closed, AV.closed]) (by simp [closeds, wdA_closed, AV.closed]) ?_; refine SW.of_vc ?_
  repeat first | refine opsStep ?_ | refine codeStep ?_ | refine drawStep ?_
  refine loopE_of (ι := {n : Nat // n ≤ l.length ∧ trL l n = t}) (fun n => (fr [(1, .ref 0 0 0), (2, .ref 1 0 0), (3, .int .i64 (n.1 : Nat))], [.cells 0 [.bool neg, wS l], .cells 0 [.bool false, .sl .nil 0 []]])) (fun n => n.1) ⟨l.length, Nat.le_refl _, ht⟩ (Ent.fr' ⟨(by kernel_rfl), (by kernel_rfl), (by kernel_rfl), trivial⟩ (by kernel_rfl)) ?_
  rintro ⟨n, hn, hnt⟩
  cases n with
  | zero =>
    have ht0 : t = 0 := hnt.symm
    subst ht0
    cases neg with
    | false =>
      repeat first | refine opsStep ?_ | refine codeStep ?_ | refine drawStep ?_
      refine SW.drawn rfl (by kernel_rfl) ?_
      repeat first | refine opsStep ?_ | refine codeStep ?_ | refine drawStep ?_
      refine guardE_of (by show (0 : Int) ≤ 0 ∧ (0 : Int) ≤ ((0 : Nat) : Int) ∧ ((0 : Nat) : Int) ≤ ((0 : Nat) : Int) ∧ ((0 : Nat) : Int) ≤ ((l.length : Nat) : Int); omega) ?_
      repeat first | refine opsStep ?_ | refine codeStep ?_ | refine drawStep ?_
      refine ⟨by kernel_rfl, ?_⟩
      repeat first | refine opsStep ?_ | refine codeStep ?_ | refine drawStep ?_
      refine finV (v' := .agg [.bool false, .sl .any (((0 : Nat) : Int).toNat - (0 : Int).toNat) (((uW l).drop ((0 : Int).toNat * 1)).take ((((0 : Nat) : Int).toNat - (0 : Int).toNat) * 1))]) (by kernel_rfl) ?_
      rw [wdA, wS]; simp [uW, List.map_take, Nat.min_eq_left hn]
    | true =>
      repeat first | refine opsStep ?_ | refine codeStep ?_ | refine drawStep ?_
      refine SW.drawn rfl (by kernel_rfl) ?_
      repeat first | refine opsStep ?_ | refine codeStep ?_ | refine drawStep ?_
      refine guardE_of (by show (0 : Int) ≤ 0 ∧ (0 : Int) ≤ ((0 : Nat) : Int) ∧ ((0 : Nat) : Int) ≤ ((0 : Nat) : Int) ∧ ((0 : Nat) : Int) ≤ ((l.length : Nat) : Int); omega) ?_
      repeat first | refine opsStep ?_ | refine codeStep ?_ | refine drawStep ?_
      refine ⟨by kernel_rfl, ?_⟩
      repeat first | refine opsStep ?_ | refine codeStep ?_ | refine drawStep ?_
      refine finV (v' := .agg [.bool (decide (((0 : Nat) : Int) > 0)), .sl .any (((0 : Nat) : Int).toNat - (0 : Int).toNat) (((uW l).drop ((0 : Int).toNat * 1)).take ((((0 : Nat) : Int).toNat - (0 : Int).toNat) * 1))]) (by kernel_rfl) ?_
      rw [wdA, wS]; simp [uW, List.map_take, Nat.min_eq_left hn]
  | succ n =>
    have hg : (uW l)[n]? = some (.int .u64 (l[n] : Nat)) := by rw [uW_get, List.getElem?_eq_getElem hn]; rfl
    have hgn : l[n]? = some l[n] := List.getElem?_eq_getElem hn
    have hw : IntKind.wrap .i64 (((n + 1 : Nat) : Int) - 1) = ((n : Nat) : Int) := by rw [IntWalk.i64_in _ (by omega)]; omega
    rw [trL, hgn] at hnt
    generalize l[n] = x at *
    repeat first | refine opsStep ?_ | refine codeStep ?_ | refine drawStep ?_
    refine decB_true (b := decide (((n + 1 : Nat) : Int) > 0)) (decide_eq_true (by omega)) ?_
    repeat first | refine opsStep ?_ | refine codeStep ?_ | refine drawStep ?_
    refine guardE_of (by show (0 : Int) ≤ IntKind.wrap .i64 (((n + 1 : Nat) : Int) - 1) ∧ IntKind.wrap .i64 (((n + 1 : Nat) : Int) - 1) < ((l.length : Nat) : Int); rw [hw]; omega) ?_
    repeat first | refine opsStep ?_ | refine codeStep ?_ | refine drawStep ?_
    refine optE_of (c := .int .u64 (x : Nat)) (by rw [hw]; simpa [Value.cells] using hg) ?_
    repeat first | refine opsStep ?_ | refine codeStep ?_ | refine drawStep ?_
    refine decB_dec (fun hx => ?_) (fun hx => ?_)
    · have hx : x = 0 := by have h : ((x : Nat) : Int) = 0 := hx; omega
      rw [hx, if_pos rfl] at hnt
      repeat first | refine opsStep ?_ | refine codeStep ?_ | refine drawStep ?_
      refine ⟨⟨n, by omega, hnt⟩, (by show n < n + 1; omega), Ent.fr' ⟨(by kernel_rfl), (by kernel_rfl), (Eq.trans (b := .int .i64 (IntKind.wrap .i64 (((n + 1 : Nat) : Int) - 1))) (by kernel_rfl) (by rw [hw])), trivial⟩ (by kernel_rfl)⟩
    · have hx : x ≠ 0 := fun h => hx (show ((x : Nat) : Int) = 0 by omega)
      rw [if_neg (by simpa using hx)] at hnt
      subst hnt
      cases neg with
      | false =>
        repeat first | refine opsStep ?_ | refine codeStep ?_ | refine drawStep ?_
        refine SW.drawn rfl (by kernel_rfl) ?_
        repeat first | refine opsStep ?_ | refine codeStep ?_ | refine drawStep ?_
        refine guardE_of (by show (0 : Int) ≤ 0 ∧ (0 : Int) ≤ ((n + 1 : Nat) : Int) ∧ ((n + 1 : Nat) : Int) ≤ ((n + 1 : Nat) : Int) ∧ ((n + 1 : Nat) : Int) ≤ ((l.length : Nat) : Int); omega) ?_
        repeat first | refine opsStep ?_ | refine codeStep ?_ | refine drawStep ?_
        refine ⟨by kernel_rfl, ?_⟩
        repeat first | refine opsStep ?_ | refine codeStep ?_ | refine drawStep ?_
        refine finV (v' := .agg [.bool false, .sl .any (((n + 1 : Nat) : Int).toNat - (0 : Int).toNat) (((uW l).drop ((0 : Int).toNat * 1)).take ((((n + 1 : Nat) : Int).toNat - (0 : Int).toNat) * 1))]) (by kernel_rfl) ?_
        rw [wdA, wS]; simp [uW, List.map_take, Nat.min_eq_left hn]
      | true =>
        repeat first | refine opsStep ?_ | refine codeStep ?_ | refine drawStep ?_
        refine SW.drawn rfl (by kernel_rfl) ?_
        repeat first | refine opsStep ?_ | refine codeStep ?_ | refine drawStep ?_
        refine guardE_of (by show (0 : Int) ≤ 0 ∧ (0 : Int) ≤ ((n + 1 : Nat) : Int) ∧ ((n + 1 : Nat) : Int) ≤ ((n + 1 : Nat) : Int) ∧ ((n + 1 : Nat) : Int) ≤ ((l.length : Nat) : Int); omega) ?_
        repeat first | refine opsStep ?_ | refine codeStep ?_ | refine drawStep ?_
        refine ⟨by kernel_rfl, ?_⟩
        repeat first | refine opsStep ?_ | refine codeStep ?_ | refine drawStep ?_
        refine finV (v' := .agg [.bool (decide (((n + 1 : Nat) : Int) > 0)), .sl .any (((n + 1 : Nat) : Int).toNat - (0 : Int).toNat) (((uW l).drop ((0 : Int).toNat * 1)).take ((((n + 1 : Nat) : Int).toNat - (0 : Int).toNat) * 1))]) (by kernel_rfl) ?_
        rw [wdA, wS]; simp [uW, List.map_take, Nat.min_eq_left hn]

end Tab

/- tabardref01.Wide: plus, minus, Size. -/
namespace Tab
open Go Go.Proofs
set_option maxRecDepth 10000
set_option linter.unusedVariables false
set_option linter.unusedSimpArgs false
set_option linter.unusedSectionVars false

def mxL (a b : Nat) : Nat := max (digs a).length (digs b).length
def plN (a b : Nat) : Nat := if carD a b (mxL a b) = 0 then mxL a b else mxL a b + 1
theorem car_end {a b i : Nat} (h : mxL a b < i) : carD a b i = 0 := by
  have h1 := digs_big (mxL a b) (Nat.le_max_left (digs a).length (digs b).length)
  have h2 := digs_big (mxL a b) (Nat.le_max_right (digs a).length (digs b).length)
  have h3 : 65536 ^ (mxL a b + 1) ≤ 65536 ^ i := Nat.pow_le_pow_right (by decide) h
  rw [Nat.pow_succ] at h3
  rw [carD, Nat.mod_eq_of_lt (by omega), Nat.mod_eq_of_lt (by omega), Nat.div_eq_of_lt (by omega)]
theorem plN_val (a b : Nat) : valD (firD (a + b) (plN a b)) = a + b := by
  have h1 := digs_big (mxL a b) (Nat.le_max_left (digs a).length (digs b).length)
  have h2 := digs_big (mxL a b) (Nat.le_max_right (digs a).length (digs b).length)
  rw [plN]
  split
  · rename_i h; exact add_done h1 h2 h
  · rename_i h
    have h3 : 65536 ^ mxL a b ≤ 65536 ^ (mxL a b + 1) := Nat.pow_le_pow_right (by decide) (by omega)
    exact add_done (by omega) (by omega) (car_end (Nat.lt_succ_self _))
theorem plN_le (a b) : plN a b ≤ mxL a b + 1 := by rw [plN]; split <;> omega
theorem digs_get' (a i : Nat) : (digs a)[i]?.getD 0 = a / 65536 ^ i % 65536 := digs_get i a

set_option maxHeartbeats 1000000 in
theorem wd_plus (n1 n2 : Bool) (a b : Nat) (hab : mxL a b < 2 ^ 40) : Pure Try.prog 87 [wdA n1 (digs a), wdA n2 (digs b)] (.sl .any (plN a b) (uW (firD (a + b) (plN a b)))) := by
  have hla : (digs a).length ≤ mxL a b := Nat.le_max_left _ _
  have hlb : (digs b).length ≤ mxL a b := Nat.le_max_right _ _
  have hda := fun i hi => wd_digit n1 (digs a) i hi (by omega)
  have hdb := fun i hi => wd_digit n2 (digs b) i hi (by omega)
  simp only [digs_get'] at hda hdb
  have hfl := firD_length (a + b)
  have hpl := plN_le a b
  have hce := fun i h => car_end (a := a) (b := b) (i := i) h
  have hcl := carD_le a b
  have had := add_digit a b
  have hfs := firD_succ (a + b)
  refine Pure.of_sw 41 Try.func87 rfl Try.ntmps87 (by kernel_rfl) (Nat.le_of_ble_eq_true (by kernel_rfl)) (by simp [closeds, wdA_closed, AV.closed]) (by simp [closeds, wdA_closed, AV.closed, uW_closed]) ?_; refine SW.of_vc ?_
  repeat first | refine opsStep ?_ | refine codeStep ?_ | refine drawStep ?_
  refine loopE_of (ι := {i : Nat // i ≤ plN a b}) (fun i => (fr [(2, .ref 0 0 0), (3, .ref 1 0 0), (5, .hs 2 i.1 0 i.1 1), (6, .int .u64 (carD a b i.1 : Nat)), (7, .int .i64 (i.1 : Nat))], [.cells 0 [.bool n1, wS (digs a)], .cells 0 [.bool n2, wS (digs b)], .cells i.1 (uW (firD (a + b) i.1))])) (fun i => plN a b - i.1) ⟨0, Nat.zero_le _⟩
    (((Ent.fr' (l := [(2, .ref 0 0 0), (3, .ref 1 0 0), (5, .sl .nil 0 []), (6, .int .u64 0), (7, .int .i64 (0 : Nat))]) (H' := [.cells 0 [.bool n1, wS (digs a)], .cells 0 [.bool n2, wS (digs b)]]) ⟨(by kernel_rfl), (by kernel_rfl), (by kernel_rfl), (by kernel_rfl), (by kernel_rfl), trivial⟩ (by kernel_rfl)).trans (Ent.nil 5 1 rfl)).trans (Ent.fr' ⟨(by kernel_rfl), (by kernel_rfl), (by kernel_rfl), (Eq.trans (b := .int .u64 0) (by kernel_rfl) (by rw [carD_zero]; rfl)), (by kernel_rfl), trivial⟩ (by kernel_rfl))) ?_
  rintro ⟨i, hi⟩
  have hmx : (if ((digs b).length : Int) > ((digs a).length : Int) then ((digs b).length : Int) else ((digs a).length : Int)) = ((mxL a b : Nat) : Int) := by
    rw [mxL]; split <;> omega
  have hul : (uW (firD (a + b) i)).length = i := by rw [uW_length, hfl]
  by_cases hlt : i < plN a b
  · have hda := hda i (by omega)
    have hdb := hdb i (by omega)
    obtain ⟨hs1, hs2⟩ := had i
    have hcl := hcl i
    have hfs := hfs i
    have hx : a / 65536 ^ i % 65536 < 65536 := Nat.mod_lt _ (by decide)
    have hy : b / 65536 ^ i % 65536 < 65536 := Nat.mod_lt _ (by decide)
    have hcc : i = mxL a b → carD a b i ≠ 0 := fun e h0 => by rw [plN, ← e, if_pos h0] at hlt; omega
    generalize a / 65536 ^ i % 65536 = x at *
    generalize b / 65536 ^ i % 65536 = y at *
    have hsw : IntKind.wrap .u64 (IntKind.wrap .u64 ((x : Int) + (y : Int)) + (carD a b i : Int)) = ((x + y + carD a b i : Nat) : Int) := by
      rw [IntWalk.u64_in ((x : Int) + (y : Int)) (by omega), IntWalk.u64_in _ (by omega)]; simp
    obtain ⟨s, hs⟩ : ∃ s, x + y + carD a b i = s := ⟨_, rfl⟩
    rw [hs] at hsw hs1 hs2
    repeat first | refine opsStep ?_ | refine codeStep ?_ | refine drawStep ?_
    by_cases hm : i < mxL a b
    · refine decB_true (b := decide (((i : Nat) : Int) < (if ((digs b).length : Int) > ((digs a).length : Int) then ((digs b).length : Int) else ((digs a).length : Int)))) (decide_eq_true (by rw [hmx]; omega)) ?_
      repeat first | refine opsStep ?_ | refine codeStep ?_ | refine drawStep ?_
      refine SW.drawn rfl (by kernel_rfl) ?_
      repeat first | refine opsStep ?_ | refine codeStep ?_ | refine drawStep ?_
      refine .inl ⟨_, _, [], hda, RdsN_refl _, .inr rfl, none_need, ?_⟩
      repeat first | refine opsStep ?_ | refine codeStep ?_ | refine drawStep ?_
      refine .inl ⟨_, _, [], hdb, RdsN_refl _, .inr rfl, none_need, ?_⟩
      repeat first | refine opsStep ?_ | refine codeStep ?_ | refine drawStep ?_
      refine ⟨by kernel_rfl, ?_⟩
      refine VCode.ent (Ent.fr' (l := [(2, .ref 0 0 0), (3, .ref 1 0 0), (5, .hs 2 (i) 0 (i) 1), (6, .int .u64 (carD a b (i) : Nat)), (7, .int .i64 (i : Nat)), (8, .int .u64 (s : Nat))]) (H' := [.cells 0 [.bool n1, wS (digs a)], .cells 0 [.bool n2, wS (digs b)], .cells (i) (uW (firD (a + b) (i)))]) ⟨(by kernel_rfl), (by kernel_rfl), (by kernel_rfl), (by kernel_rfl), (by kernel_rfl), (Eq.trans (b := .int .u64 (IntKind.wrap .u64 (IntKind.wrap .u64 ((x : Int) + (y : Int)) + (carD a b i : Int)))) (by kernel_rfl) (by rw [hsw])), trivial⟩ (by kernel_rfl)) ?_
      repeat first | refine opsStep ?_ | refine codeStep ?_ | refine drawStep ?_
      refine guardE_of ⟨rfl, by rw [hul]; simp⟩ ?_
      refine guardE_of rfl ?_
      refine guardE_of ⟨by show i + 1 ≤ 9223372036854775807; omega, by show (i + 1) * 8 ≤ 140737488355328; omega⟩ ?_
      repeat first | refine opsStep ?_ | refine codeStep ?_ | refine drawStep ?_
      refine ⟨⟨i + 1, hlt⟩, (by show plN a b - (i + 1) < plN a b - i; omega), ?_⟩
      refine Ent.to (Ent.frT (H' := [.cells 0 [.bool n1, wS (digs a)], .cells 0 [.bool n2, wS (digs b)], .cells (i + 1) (((uW (firD (a + b) i)).drop 0).take (i * 1) ++ [.int .u64 (IntKind.wrap .u64 ((BitVec.ofInt (IntKind.bits .u64) (s : Int) &&& BitVec.ofInt (IntKind.bits .u64) 65535).toNat))])]) 3 ⟨(by kernel_rfl), (by kernel_rfl), (by kernel_rfl), (Eq.trans (b := .int .u64 ((s : Int).fdiv (2 ^ (min ((16 : Nat) : Int).toNat 64)))) (by kernel_rfl) (by rw [shr_nat' s 16 (by omega), hs2])), inc_slot (i := i) (by omega), trivial⟩ (by kernel_rfl) (Nat.zero_le _) (by simp [frBel, AV.bel]) ?_) ?_
      · rw [List.drop_zero, Nat.mul_one, List.take_of_length_le (by rw [hul]; exact Nat.le_refl _), u64_low, hs1]
        simp [blksBel, Blk.bel, bels_append, bels, AV.bel, uW_bel, wS]
      · rw [List.drop_zero, Nat.mul_one, List.take_of_length_le (by rw [hul]; exact Nat.le_refl _), u64_low, hs1, ← uW_snoc, ← hfs]
    · have hcc := hcc (by omega)
      refine decB_false (b := decide (((i : Nat) : Int) < (if ((digs b).length : Int) > ((digs a).length : Int) then ((digs b).length : Int) else ((digs a).length : Int)))) (decide_eq_false (by rw [hmx]; omega)) ?_
      repeat first | refine opsStep ?_ | refine codeStep ?_ | refine drawStep ?_
      refine decB_true (b := decide (((carD a b i : Nat) : Int) > 0)) (decide_eq_true (by omega)) ?_
      repeat first | refine opsStep ?_ | refine codeStep ?_ | refine drawStep ?_
      refine SW.drawn rfl (by kernel_rfl) ?_
      repeat first | refine opsStep ?_ | refine codeStep ?_ | refine drawStep ?_
      refine .inl ⟨_, _, [], hda, RdsN_refl _, .inr rfl, none_need, ?_⟩
      repeat first | refine opsStep ?_ | refine codeStep ?_ | refine drawStep ?_
      refine .inl ⟨_, _, [], hdb, RdsN_refl _, .inr rfl, none_need, ?_⟩
      repeat first | refine opsStep ?_ | refine codeStep ?_ | refine drawStep ?_
      refine ⟨by kernel_rfl, ?_⟩
      refine VCode.ent (Ent.fr' (l := [(2, .ref 0 0 0), (3, .ref 1 0 0), (5, .hs 2 (i) 0 (i) 1), (6, .int .u64 (carD a b (i) : Nat)), (7, .int .i64 (i : Nat)), (8, .int .u64 (s : Nat))]) (H' := [.cells 0 [.bool n1, wS (digs a)], .cells 0 [.bool n2, wS (digs b)], .cells (i) (uW (firD (a + b) (i)))]) ⟨(by kernel_rfl), (by kernel_rfl), (by kernel_rfl), (by kernel_rfl), (by kernel_rfl), (Eq.trans (b := .int .u64 (IntKind.wrap .u64 (IntKind.wrap .u64 ((x : Int) + (y : Int)) + (carD a b i : Int)))) (by kernel_rfl) (by rw [hsw])), trivial⟩ (by kernel_rfl)) ?_
      repeat first | refine opsStep ?_ | refine codeStep ?_ | refine drawStep ?_
      refine guardE_of ⟨rfl, by rw [hul]; simp⟩ ?_
      refine guardE_of rfl ?_
      refine guardE_of ⟨by show i + 1 ≤ 9223372036854775807; omega, by show (i + 1) * 8 ≤ 140737488355328; omega⟩ ?_
      repeat first | refine opsStep ?_ | refine codeStep ?_ | refine drawStep ?_
      refine ⟨⟨i + 1, hlt⟩, (by show plN a b - (i + 1) < plN a b - i; omega), ?_⟩
      refine Ent.to (Ent.frT (H' := [.cells 0 [.bool n1, wS (digs a)], .cells 0 [.bool n2, wS (digs b)], .cells (i + 1) (((uW (firD (a + b) i)).drop 0).take (i * 1) ++ [.int .u64 (IntKind.wrap .u64 ((BitVec.ofInt (IntKind.bits .u64) (s : Int) &&& BitVec.ofInt (IntKind.bits .u64) 65535).toNat))])]) 3 ⟨(by kernel_rfl), (by kernel_rfl), (by kernel_rfl), (Eq.trans (b := .int .u64 ((s : Int).fdiv (2 ^ (min ((16 : Nat) : Int).toNat 64)))) (by kernel_rfl) (by rw [shr_nat' s 16 (by omega), hs2])), inc_slot (i := i) (by omega), trivial⟩ (by kernel_rfl) (Nat.zero_le _) (by simp [frBel, AV.bel]) ?_) ?_
      · rw [List.drop_zero, Nat.mul_one, List.take_of_length_le (by rw [hul]; exact Nat.le_refl _), u64_low, hs1]
        simp [blksBel, Blk.bel, bels_append, bels, AV.bel, uW_bel, wS]
      · rw [List.drop_zero, Nat.mul_one, List.take_of_length_le (by rw [hul]; exact Nat.le_refl _), u64_low, hs1, ← uW_snoc, ← hfs]
  · have hie : i = plN a b := by omega
    have hm : ¬ i < mxL a b := by rw [hie, plN]; split <;> omega
    have hc0 : carD a b i = 0 := by
      rw [hie]
      by_cases h0 : carD a b (mxL a b) = 0
      · rw [plN, if_pos h0]; exact h0
      · rw [plN, if_neg h0]; exact car_end (Nat.lt_succ_self _)
    repeat first | refine opsStep ?_ | refine codeStep ?_ | refine drawStep ?_
    refine decB_false (b := decide (((i : Nat) : Int) < (if ((digs b).length : Int) > ((digs a).length : Int) then ((digs b).length : Int) else ((digs a).length : Int)))) (decide_eq_false (by rw [hmx]; omega)) ?_
    repeat first | refine opsStep ?_ | refine codeStep ?_ | refine drawStep ?_
    refine decB_false (b := decide (((carD a b i : Nat) : Int) > 0)) (decide_eq_false (by omega)) ?_
    repeat first | refine opsStep ?_ | refine codeStep ?_ | refine drawStep ?_
    subst hie
    exact finFrz 4 (b := 2) (g := plN a b) (es := 1) (by kernel_rfl) (by kernel_rfl) (by rw [hul, Nat.mul_one]) rfl

set_option maxHeartbeats 1000000 in
theorem wd_minus (n1 n2 : Bool) (a b : Nat) (hle : b ≤ a) (hab : mxL a b < 2 ^ 40) : Pure Try.prog 89 [wdA n1 (digs a), wdA n2 (digs b)] (.sl .any (digs a).length (uW (firD (a - b) (digs a).length))) := by
  have hla : (digs a).length ≤ mxL a b := Nat.le_max_left _ _
  have hlb : (digs b).length ≤ mxL a b := Nat.le_max_right _ _
  have hda := fun i hi => wd_digit n1 (digs a) i hi (by omega)
  have hdb := fun i hi => wd_digit n2 (digs b) i hi (by omega)
  simp only [digs_get'] at hda hdb
  have hfl := firD_length (a - b)
  have hcl := borD_le a b
  have had := fun i => sub_digit hle i
  have hfs := firD_succ (a - b)
  refine Pure.of_sw 35 Try.func89 rfl Try.ntmps89 (by kernel_rfl) (Nat.le_of_ble_eq_true (by kernel_rfl)) (by simp [closeds, wdA_closed, AV.closed]) (by simp [closeds, wdA_closed, AV.closed, uW_closed]) ?_; refine SW.of_vc ?_
  repeat first | refine opsStep ?_ | refine codeStep ?_ | refine drawStep ?_
  refine loopE_of (ι := {i : Nat // i ≤ (digs a).length}) (fun i => (fr [(2, .ref 0 0 0), (3, .ref 1 0 0), (5, .hs 2 (i.1) 0 (i.1) 1), (6, .int .u64 (borD a b (i.1) : Nat)), (7, .int .i64 (i.1 : Nat))], [.cells 0 [.bool n1, wS (digs a)], .cells 0 [.bool n2, wS (digs b)], .cells (i.1) (uW (firD (a - b) (i.1)))])) (fun i => (digs a).length - i.1) ⟨0, Nat.zero_le _⟩
    (((Ent.fr' (l := [(2, .ref 0 0 0), (3, .ref 1 0 0), (5, .sl .nil 0 []), (6, .int .u64 0), (7, .int .i64 (0 : Nat))]) (H' := [.cells 0 [.bool n1, wS (digs a)], .cells 0 [.bool n2, wS (digs b)]]) ⟨(by kernel_rfl), (by kernel_rfl), (by kernel_rfl), (by kernel_rfl), (by kernel_rfl), trivial⟩ (by kernel_rfl)).trans (Ent.nil 5 1 rfl)).trans (Ent.fr' ⟨(by kernel_rfl), (by kernel_rfl), (by kernel_rfl), (Eq.trans (b := .int .u64 0) (by kernel_rfl) (by rw [borD_zero]; rfl)), (by kernel_rfl), trivial⟩ (by kernel_rfl))) ?_
  rintro ⟨i, hi⟩
  have hul : (uW (firD (a - b) i)).length = i := by rw [uW_length, hfl]
  repeat first | refine opsStep ?_ | refine codeStep ?_ | refine drawStep ?_
  refine decB_dec (fun hlt => ?_) (fun hlt => ?_)
  · have hlt : i < (digs a).length := by have h : ((i : Nat) : Int) < (((digs a).length : Nat) : Int) := hlt; omega
    have hda := hda i (by omega)
    have hdb := hdb i (by omega)
    obtain ⟨hs1, hs2⟩ := had i
    have hcl := hcl i
    have hfs := hfs i
    have hx : a / 65536 ^ i % 65536 < 65536 := Nat.mod_lt _ (by decide)
    have hy : b / 65536 ^ i % 65536 < 65536 := Nat.mod_lt _ (by decide)
    generalize a / 65536 ^ i % 65536 = x at *
    generalize b / 65536 ^ i % 65536 = y at *
    have hsw : IntKind.wrap .u64 (IntKind.wrap .u64 (IntKind.wrap .u64 ((x : Int) + 65536) - (y : Int)) - (borD a b i : Int)) = ((x + 65536 - y - borD a b i : Nat) : Int) := by
      rw [IntWalk.u64_in ((x : Int) + 65536) (by omega), IntWalk.u64_in ((x : Int) + 65536 - y) (by omega), IntWalk.u64_in _ (by omega)]; omega
    have hsb : x + 65536 - y - borD a b i < 131072 := by omega
    obtain ⟨s, hs⟩ : ∃ s, x + 65536 - y - borD a b i = s := ⟨_, rfl⟩
    rw [hs] at hsw hs1 hs2 hsb
    have hbw : IntKind.wrap .u64 (1 - ((s / 65536 : Nat) : Int)) = ((borD a b (i + 1) : Nat) : Int) := by
      rw [IntWalk.u64_in _ (by omega), ← hs2]; omega
    repeat first | refine opsStep ?_ | refine codeStep ?_ | refine drawStep ?_
    refine SW.drawn rfl (by kernel_rfl) ?_
    repeat first | refine opsStep ?_ | refine codeStep ?_ | refine drawStep ?_
    refine .inl ⟨_, _, [], hda, RdsN_refl _, .inr rfl, none_need, ?_⟩
    repeat first | refine opsStep ?_ | refine codeStep ?_ | refine drawStep ?_
    refine .inl ⟨_, _, [], hdb, RdsN_refl _, .inr rfl, none_need, ?_⟩
    repeat first | refine opsStep ?_ | refine codeStep ?_ | refine drawStep ?_
    refine ⟨by kernel_rfl, ?_⟩
    refine VCode.ent (Ent.fr' (l := [(2, .ref 0 0 0), (3, .ref 1 0 0), (5, .hs 2 (i) 0 (i) 1), (6, .int .u64 (borD a b (i) : Nat)), (7, .int .i64 (i : Nat)), (8, .int .u64 (s : Nat))]) (H' := [.cells 0 [.bool n1, wS (digs a)], .cells 0 [.bool n2, wS (digs b)], .cells (i) (uW (firD (a - b) (i)))]) ⟨(by kernel_rfl), (by kernel_rfl), (by kernel_rfl), (by kernel_rfl), (by kernel_rfl), (Eq.trans (b := .int .u64 (IntKind.wrap .u64 (IntKind.wrap .u64 (IntKind.wrap .u64 ((x : Int) + 65536) - (y : Int)) - (borD a b i : Int)))) (by kernel_rfl) (by rw [hsw])), trivial⟩ (by kernel_rfl)) ?_
    repeat first | refine opsStep ?_ | refine codeStep ?_ | refine drawStep ?_
    refine guardE_of ⟨rfl, by rw [hul]; simp⟩ ?_
    refine guardE_of rfl ?_
    refine guardE_of ⟨by show i + 1 ≤ 9223372036854775807; omega, by show (i + 1) * 8 ≤ 140737488355328; omega⟩ ?_
    repeat first | refine opsStep ?_ | refine codeStep ?_ | refine drawStep ?_
    refine ⟨⟨i + 1, hlt⟩, (by show (digs a).length - (i + 1) < (digs a).length - i; omega), ?_⟩
    refine Ent.to (Ent.frT (H' := [.cells 0 [.bool n1, wS (digs a)], .cells 0 [.bool n2, wS (digs b)], .cells (i + 1) (((uW (firD (a - b) i)).drop 0).take (i * 1) ++ [.int .u64 (IntKind.wrap .u64 ((BitVec.ofInt (IntKind.bits .u64) (s : Int) &&& BitVec.ofInt (IntKind.bits .u64) 65535).toNat))])]) 3 ⟨(by kernel_rfl), (by kernel_rfl), (by kernel_rfl), (Eq.trans (b := .int .u64 (IntKind.wrap .u64 (1 - (s : Int).fdiv (2 ^ (min ((16 : Nat) : Int).toNat 64))))) (by kernel_rfl) (by rw [shr_nat' s 16 (by omega), hbw])), inc_slot (i := i) (by omega), trivial⟩ (by kernel_rfl) (Nat.zero_le _) (by simp [frBel, AV.bel]) ?_) ?_
    · rw [List.drop_zero, Nat.mul_one, List.take_of_length_le (by rw [hul]; exact Nat.le_refl _), u64_low, hs1]
      simp [blksBel, Blk.bel, bels_append, bels, AV.bel, uW_bel, wS]
    · rw [List.drop_zero, Nat.mul_one, List.take_of_length_le (by rw [hul]; exact Nat.le_refl _), u64_low, hs1, ← uW_snoc, ← hfs]
  · have hie : i = (digs a).length := by have h : ¬ ((i : Nat) : Int) < (((digs a).length : Nat) : Int) := hlt; omega
    subst hie
    repeat first | refine opsStep ?_ | refine codeStep ?_ | refine drawStep ?_
    exact finFrz 4 (b := 2) (g := (digs a).length) (es := 1) (by kernel_rfl) (by kernel_rfl) (by rw [hul, Nat.mul_one]) rfl

def sizI (a b : Nat) : Int := if a < b then -1 else if b < a then 1 else 0
set_option maxHeartbeats 1000000 in
theorem wd_Size (n1 n2 : Bool) (a b : Nat) (hab : mxL a b < 2 ^ 40) : Pure Try.prog 88 [wdA n1 (digs a), wdA n2 (digs b)] (.int .i64 (sizI a b)) := by
  have hla : (digs a).length ≤ mxL a b := Nat.le_max_left _ _
  have hlb : (digs b).length ≤ mxL a b := Nat.le_max_right _ _
  have hda := fun i hi => wd_digit n1 (digs a) i hi (by omega)
  have hdb := fun i hi => wd_digit n2 (digs b) i hi (by omega)
  simp only [digs_get'] at hda hdb
  have h1 := digs_big (mxL a b) hla
  have h2 := digs_big (mxL a b) hlb
  have hstart : a / 65536 ^ mxL a b = b / 65536 ^ mxL a b := by rw [Nat.div_eq_of_lt h1, Nat.div_eq_of_lt h2]
  have hmx : (if ((digs b).length : Int) > ((digs a).length : Int) then ((digs b).length : Int) else ((digs a).length : Int)) = ((mxL a b : Nat) : Int) := by
    rw [mxL]; split <;> omega
  refine Pure.of_sw 32 Try.func88 rfl Try.ntmps88 (by kernel_rfl) (Nat.le_of_ble_eq_true (by kernel_rfl)) (by simp [closeds, wdA_closed, AV.closed]) (by simp [closeds, wdA_closed, AV.closed, uW_closed]) ?_; refine SW.of_vc ?_
  repeat first | refine opsStep ?_ | refine codeStep ?_ | refine drawStep ?_
  refine loopE_of (ι := {j : Nat // j ≤ mxL a b ∧ a / 65536 ^ j = b / 65536 ^ j}) (fun j => (fr [(2, .ref 0 0 0), (3, .ref 1 0 0), (5, .int .i64 ((j.1 : Nat) - 1 : Int))], [.cells 0 [.bool n1, wS (digs a)], .cells 0 [.bool n2, wS (digs b)]])) (fun j => j.1) ⟨mxL a b, Nat.le_refl _, hstart⟩
    (Ent.fr' ⟨(by kernel_rfl), (by kernel_rfl), (Eq.trans (b := .int .i64 (IntKind.wrap .i64 ((if ((digs b).length : Int) > ((digs a).length : Int) then ((digs b).length : Int) else ((digs a).length : Int)) - 1))) (by kernel_rfl) (by rw [hmx, IntWalk.i64_in _ (by omega)])), trivial⟩ (by kernel_rfl)) ?_
  rintro ⟨j, hj, hjj⟩
  cases j with
  | zero =>
    have he : a = b := by simpa using hjj
    repeat first | refine opsStep ?_ | refine codeStep ?_ | refine drawStep ?_
    exact finV (v' := .int .i64 0) (by kernel_rfl) (by rw [he, sizI]; simp)
  | succ j =>
    have hda := hda j (by omega)
    have hdb := hdb j (by omega)
    have hlt := cmp_lt hjj
    have hgt := cmp_lt hjj.symm
    have heq := cmp_eq hjj
    have hx : a / 65536 ^ j % 65536 < 65536 := Nat.mod_lt _ (by decide)
    have hy : b / 65536 ^ j % 65536 < 65536 := Nat.mod_lt _ (by decide)
    generalize a / 65536 ^ j % 65536 = x at *
    generalize b / 65536 ^ j % 65536 = y at *
    refine VCode.ent (Ent.fr' (l := [(2, .ref 0 0 0), (3, .ref 1 0 0), (5, .int .i64 (j : Nat))]) (H' := [.cells 0 [.bool n1, wS (digs a)], .cells 0 [.bool n2, wS (digs b)]]) ⟨(by kernel_rfl), (by kernel_rfl), (Eq.trans (b := .int .i64 (((j + 1 : Nat) : Int) - 1)) (by kernel_rfl) (by congr 1; omega)), trivial⟩ (by kernel_rfl)) ?_
    repeat first | refine opsStep ?_ | refine codeStep ?_ | refine drawStep ?_
    refine SW.drawn rfl (by kernel_rfl) ?_
    repeat first | refine opsStep ?_ | refine codeStep ?_ | refine drawStep ?_
    refine .inl ⟨_, _, [], hda, RdsN_refl _, .inr rfl, none_need, ?_⟩
    repeat first | refine opsStep ?_ | refine codeStep ?_ | refine drawStep ?_
    refine .inl ⟨_, _, [], hdb, RdsN_refl _, .inr rfl, none_need, ?_⟩
    repeat first | refine opsStep ?_ | refine codeStep ?_ | refine drawStep ?_
    refine ⟨by kernel_rfl, ?_⟩
    repeat first | refine opsStep ?_ | refine codeStep ?_ | refine drawStep ?_
    refine decB_dec (fun hc1 => ?_) (fun hc1 => ?_)
    · have hc1 : x < y := by have h : ((x : Nat) : Int) < ((y : Nat) : Int) := hc1; omega
      repeat first | refine opsStep ?_ | refine codeStep ?_ | refine drawStep ?_
      exact finV (v' := .int .i64 (-1)) (by kernel_rfl) (by rw [sizI, if_pos (hlt hc1)])
    have hc1 : ¬ x < y := fun h => hc1 (show ((x : Nat) : Int) < ((y : Nat) : Int) by omega)
    repeat first | refine opsStep ?_ | refine codeStep ?_ | refine drawStep ?_
    refine SW.drawn rfl (by kernel_rfl) ?_
    repeat first | refine opsStep ?_ | refine codeStep ?_ | refine drawStep ?_
    refine .inl ⟨_, _, [], hda, RdsN_refl _, .inr rfl, none_need, ?_⟩
    repeat first | refine opsStep ?_ | refine codeStep ?_ | refine drawStep ?_
    refine .inl ⟨_, _, [], hdb, RdsN_refl _, .inr rfl, none_need, ?_⟩
    repeat first | refine opsStep ?_ | refine codeStep ?_ | refine drawStep ?_
    refine ⟨by kernel_rfl, ?_⟩
    repeat first | refine opsStep ?_ | refine codeStep ?_ | refine drawStep ?_
    refine decB_dec (fun hc2 => ?_) (fun hc2 => ?_)
    · have hc2 : y < x := by have h : ((x : Nat) : Int) > ((y : Nat) : Int) := hc2; omega
      have := hgt hc2
      repeat first | refine opsStep ?_ | refine codeStep ?_ | refine drawStep ?_
      exact finV (v' := .int .i64 1) (by kernel_rfl) (by rw [sizI, if_neg (by omega), if_pos this])
    · have hc2 : ¬ y < x := fun h => hc2 (show ((x : Nat) : Int) > ((y : Nat) : Int) by omega)
      repeat first | refine opsStep ?_ | refine codeStep ?_ | refine drawStep ?_
      exact ⟨⟨j, by omega, heq (by omega)⟩, (by show j < j + 1; omega), Ent.fr' ⟨(by kernel_rfl), (by kernel_rfl), dec_slot' (i := j) (by omega), trivial⟩ (by kernel_rfl)⟩

end Tab

/- tabardref01.Wide: Minus, Plus, Of, Less, Fits; tabardref20.told. -/
namespace Tab
open Go Go.Proofs
set_option maxRecDepth 10000
set_option linter.unusedVariables false
set_option linter.unusedSimpArgs false
set_option linter.unusedSectionVars false

theorem digs_nil {n : Nat} : (digs n).length = 0 ↔ n = 0 := by
  by_cases h : n = 0
  · subst h; rw [digs_zero]; simp
  · rw [digs_pos h]; simp [h]
theorem wd_trim (neg : Bool) (l : List Nat) (hl : l.length < 2 ^ 60) (h : ∀ d ∈ l, d < 65536) : Pure Try.prog 86 [wdA neg l] (wdA (neg && decide (valD l ≠ 0)) (digs (valD l))) := by
  have h1 := wd_trimmed neg l hl
  have h2 := trim_digs l.length l rfl h
  have h3 : decide (0 < trL l l.length) = decide (valD l ≠ 0) := by
    have e : (l.take (trL l l.length)).length = (digs (valD l)).length := by rw [h2]
    rw [List.length_take, Nat.min_eq_left (trL_le _ _)] at e
    rw [decide_eq_decide, e]
    have := digs_nil (n := valD l)
    omega
  rw [h2, h3] at h1
  exact h1
theorem wd_Minus (neg : Bool) (a : Nat) (ha : (digs a).length < 2 ^ 60) : Pure Try.prog 152 [wdA neg (digs a)] (wdA (!neg && decide (a ≠ 0)) (digs a)) := by
  have h1 := wd_trim (!neg) (digs a) ha (digs_lt a)
  rw [valD_digs] at h1
  generalize (!neg && decide (a ≠ 0)) = v at *
  refine Pure.of_sw 10 Try.func152 rfl Try.ntmps152 (by kernel_rfl) (Nat.le_of_ble_eq_true (by kernel_rfl)) (by simp [closeds, wdA_closed, AV.closed]) (by simp [closeds, wdA_closed, AV.closed, uW_closed]) ?_; refine SW.of_vc ?_
  repeat first | refine opsStep ?_ | refine codeStep ?_ | refine drawStep ?_
  refine callP h1 ?_
  repeat first | refine opsStep ?_ | refine codeStep ?_ | refine drawStep ?_
  exact finV (v' := wdA v (digs a)) (by kernel_rfl) rfl
theorem wd_Plus (a b : Nat) (hab : mxL a b < 2 ^ 40) : Pure Try.prog 41 [wdA false (digs a), wdA false (digs b)] (wdA false (digs (a + b))) := by
  have hp := wd_plus false false a b hab
  have hpl := plN_le a b
  have ht := wd_trim false (firD (a + b) (plN a b)) (by rw [firD_length]; omega) (firD_lt _ _)
  rw [plN_val, Bool.false_and, wdA, wS, firD_length] at ht
  refine Pure.of_sw 35 Try.func41 rfl Try.ntmps41 (by kernel_rfl) (Nat.le_of_ble_eq_true (by kernel_rfl)) (by simp [closeds, wdA_closed, AV.closed]) (by simp [closeds, wdA_closed, AV.closed, uW_closed]) ?_; refine SW.of_vc ?_
  repeat first | refine opsStep ?_ | refine codeStep ?_ | refine drawStep ?_
  refine SW.drawn rfl (by kernel_rfl) ?_
  repeat first | refine opsStep ?_ | refine codeStep ?_ | refine drawStep ?_
  refine .inl ⟨_, _, [], hp, RdsN_refl _, .inr rfl, none_need, ?_⟩
  repeat first | refine opsStep ?_ | refine codeStep ?_ | refine drawStep ?_
  refine .inl ⟨_, _, [], ht, RdsN_refl _, .inr rfl, none_need, ?_⟩
  repeat first | refine opsStep ?_ | refine codeStep ?_ | refine drawStep ?_
  refine ⟨by kernel_rfl, ?_⟩
  repeat first | refine opsStep ?_ | refine codeStep ?_ | refine drawStep ?_
  exact finV (v' := wdA false (digs (a + b))) (by kernel_rfl) rfl
theorem wd_PlusM (a b : Nat) (hab : mxL a b < 2 ^ 40) : ∃ n l, Pure Try.prog 41 [wdA false (digs a), wdA true (digs b)] (wdA n l) ∧ n = decide (a < b) := by
  have hs := wd_Size false true a b hab
  have hla : (digs a).length ≤ mxL a b := Nat.le_max_left _ _
  have hlb : (digs b).length ≤ mxL a b := Nat.le_max_right _ _
  by_cases h : b ≤ a
  · have hm := wd_minus false true a b h hab
    have ht := wd_trim false (firD (a - b) (digs a).length) (by rw [firD_length]; omega) (firD_lt _ _)
    rw [Bool.false_and, wdA, wS, firD_length] at ht
    refine ⟨false, digs (valD (firD (a - b) (digs a).length)), ?_, (decide_eq_false (by omega)).symm⟩
    have hs0 : ¬ sizI a b < 0 := by rw [sizI, if_neg (by omega)]; split <;> omega
    generalize digs (valD (firD (a - b) (digs a).length)) = L at *
    generalize sizI a b = z at *
    refine Pure.of_sw 35 Try.func41 rfl Try.ntmps41 (by kernel_rfl) (Nat.le_of_ble_eq_true (by kernel_rfl)) (by simp [closeds, wdA_closed, AV.closed]) (by simp [closeds, wdA_closed, AV.closed, uW_closed]) ?_; refine SW.of_vc ?_
    repeat first | refine opsStep ?_ | refine codeStep ?_ | refine drawStep ?_
    refine callP hs ?_
    repeat first | refine opsStep ?_ | refine codeStep ?_ | refine drawStep ?_
    refine decB_true (b := decide (z ≥ 0)) (decide_eq_true (by omega)) ?_
    repeat first | refine opsStep ?_ | refine codeStep ?_ | refine drawStep ?_
    refine SW.drawn rfl (by kernel_rfl) ?_
    repeat first | refine opsStep ?_ | refine codeStep ?_ | refine drawStep ?_
    refine .inl ⟨_, _, [], hm, RdsN_refl _, .inr rfl, none_need, ?_⟩
    repeat first | refine opsStep ?_ | refine codeStep ?_ | refine drawStep ?_
    refine .inl ⟨_, _, [], ht, RdsN_refl _, .inr rfl, none_need, ?_⟩
    repeat first | refine opsStep ?_ | refine codeStep ?_ | refine drawStep ?_
    refine ⟨by kernel_rfl, ?_⟩
    repeat first | refine opsStep ?_ | refine codeStep ?_ | refine drawStep ?_
    exact finV (v' := wdA false L) (by kernel_rfl) rfl
  · have hab' : mxL b a < 2 ^ 40 := by rw [mxL, Nat.max_comm]; exact hab
    have hm := wd_minus true false b a (by omega) hab'
    have hv := sub_done (a := b) (b := a) (digs_big (digs b).length (Nat.le_refl _))
    have ht := wd_trim true (firD (b - a) (digs b).length) (by rw [firD_length]; omega) (firD_lt _ _)
    rw [hv, decide_eq_true (show b - a ≠ 0 by omega), Bool.true_and, wdA, wS, firD_length] at ht
    refine ⟨true, digs (b - a), ?_, (decide_eq_true (by omega)).symm⟩
    have hs0 : sizI a b = -1 := by rw [sizI, if_pos (by omega)]
    rw [hs0] at hs
    generalize digs (b - a) = L at *
    refine Pure.of_sw 35 Try.func41 rfl Try.ntmps41 (by kernel_rfl) (Nat.le_of_ble_eq_true (by kernel_rfl)) (by simp [closeds, wdA_closed, AV.closed]) (by simp [closeds, wdA_closed, AV.closed, uW_closed]) ?_; refine SW.of_vc ?_
    repeat first | refine opsStep ?_ | refine codeStep ?_ | refine drawStep ?_
    refine callP hs ?_
    repeat first | refine opsStep ?_ | refine codeStep ?_ | refine drawStep ?_
    refine SW.drawn rfl (by kernel_rfl) ?_
    repeat first | refine opsStep ?_ | refine codeStep ?_ | refine drawStep ?_
    refine .inl ⟨_, _, [], hm, RdsN_refl _, .inr rfl, none_need, ?_⟩
    repeat first | refine opsStep ?_ | refine codeStep ?_ | refine drawStep ?_
    refine .inl ⟨_, _, [], ht, RdsN_refl _, .inr rfl, none_need, ?_⟩
    repeat first | refine opsStep ?_ | refine codeStep ?_ | refine drawStep ?_
    refine ⟨by kernel_rfl, ?_⟩
    repeat first | refine opsStep ?_ | refine codeStep ?_ | refine drawStep ?_
    exact finV (v' := wdA true L) (by kernel_rfl) rfl

def dg4 (n : Nat) : List Nat := [n % 65536, n / 65536 % 65536, n / 4294967296 % 65536, n / 281474976710656]
theorem dg4_val (n : Nat) : valD (dg4 n) = n := by simp only [dg4, valD]; omega
theorem dg4_lt {n : Nat} (h : n < 18446744073709551616) : ∀ d ∈ dg4 n, d < 65536 := by
  intro d hd
  simp only [dg4, List.mem_cons, List.not_mem_nil, or_false] at hd
  rcases hd with rfl | rfl | rfl | rfl <;> omega
theorem wd_Of (n : Nat) (hn : n < 9223372036854775808) : Pure Try.prog 38 [.int .i64 (n : Nat)] (wdA false (digs n)) := by
  have ht := wd_trim false (dg4 n) (by simp [dg4]) (dg4_lt (by omega))
  rw [dg4_val, Bool.false_and] at ht
  have hw : IntKind.wrap .u64 (n : Int) = (n : Int) := IntWalk.u64_in _ (by omega)
  have e0 := u64_low n
  have e1 := shr_nat' n 16 (by omega)
  have e2 := shr_nat' n 32 (by omega)
  have e3 := shr_nat' n 48 (by omega)
  have f1 := u64_low (n / 2 ^ 16)
  have f2 := u64_low (n / 2 ^ 32)
  have hc : closeds (uW (dg4 n)) := uW_closed _
  generalize digs n = L at *
  refine Pure.of_sw 25 Try.func38 rfl Try.ntmps38 (by kernel_rfl) (Nat.le_of_ble_eq_true (by kernel_rfl)) (by simp [closeds, wdA_closed, AV.closed]) (by simp [closeds, wdA_closed, AV.closed, uW_closed]) ?_; refine SW.of_vc ?_
  repeat first | refine opsStep ?_ | refine codeStep ?_ | refine drawStep ?_
  refine optX_of (c := uW (dg4 n)) (Eq.trans (b := some [.int .u64 (IntKind.wrap .u64 ((BitVec.ofInt (IntKind.bits .u64) (IntKind.wrap .u64 (n : Int)) &&& BitVec.ofInt (IntKind.bits .u64) 65535).toNat)), .int .u64 (IntKind.wrap .u64 ((BitVec.ofInt (IntKind.bits .u64) ((IntKind.wrap .u64 (n : Int)).fdiv (2 ^ (min ((16 : Nat) : Int).toNat 64))) &&& BitVec.ofInt (IntKind.bits .u64) 65535).toNat)), .int .u64 (IntKind.wrap .u64 ((BitVec.ofInt (IntKind.bits .u64) ((IntKind.wrap .u64 (n : Int)).fdiv (2 ^ (min ((32 : Nat) : Int).toNat 64))) &&& BitVec.ofInt (IntKind.bits .u64) 65535).toNat)), .int .u64 ((IntKind.wrap .u64 (n : Int)).fdiv (2 ^ (min ((48 : Nat) : Int).toNat 64)))]) (by kernel_rfl) (by rw [hw, e0, e1, e2, e3, f1, f2]; rfl)) ?_
  repeat first | refine opsStep ?_ | refine codeStep ?_ | refine drawStep ?_
  refine callLd (as0 := [.agg [.bool false, .hs 0 0 0 4 1]]) 1 rfl ht (.cons (.agg (.cons (.refl _) (.cons (Rd.whole rfl rfl) .nil))) .nil) hc (by simp [bels, AV.bel]) rfl ?_
  repeat first | refine opsStep ?_ | refine codeStep ?_ | refine drawStep ?_
  exact finV (v' := wdA false L) (by kernel_rfl) rfl
theorem wd_OfMin : Pure Try.prog 38 [.int .i64 (-9223372036854775808)] (wdA true (digs 9223372036854775808)) := by
  have ht := wd_trim true (dg4 9223372036854775808) (by simp [dg4]) (dg4_lt (by omega))
  rw [dg4_val, Bool.true_and, decide_eq_true (by decide)] at ht
  have hc : closeds (uW (dg4 9223372036854775808)) := uW_closed _
  generalize digs 9223372036854775808 = L at *
  refine Pure.of_sw 25 Try.func38 rfl Try.ntmps38 (by kernel_rfl) (Nat.le_of_ble_eq_true (by kernel_rfl)) (by simp [closeds, wdA_closed, AV.closed]) (by simp [closeds, wdA_closed, AV.closed, uW_closed]) ?_; refine SW.of_vc ?_
  repeat first | refine opsStep ?_ | refine codeStep ?_ | refine drawStep ?_
  refine optX_of (c := uW (dg4 9223372036854775808)) (by kernel_rfl) ?_
  repeat first | refine opsStep ?_ | refine codeStep ?_ | refine drawStep ?_
  refine callLd (as0 := [.agg [.bool true, .hs 0 0 0 4 1]]) 1 rfl ht (.cons (.agg (.cons (.refl _) (.cons (Rd.whole rfl rfl) .nil))) .nil) hc (by simp [bels, AV.bel]) rfl ?_
  repeat first | refine opsStep ?_ | refine codeStep ?_ | refine drawStep ?_
  exact finV (v' := wdA true L) (by kernel_rfl) rfl
theorem mx_le {a b k : Nat} (ha : a < 65536 ^ k) (hb : b < 65536 ^ k) : mxL a b ≤ k := Nat.max_le.2 ⟨digs_len ha, digs_len hb⟩
/-- A number that isn't below 0 isn't below the least of 64 bits. -/
theorem wd_LessMin (a k : Nat) (hk : k < 2 ^ 30) (h4 : 4 ≤ k) (ha : a < 65536 ^ k) : Pure Try.prog 118 [wdA false (digs a), wdA true (digs 9223372036854775808)] (.bool false) := by
  have h63 : (9223372036854775808 : Nat) < 65536 ^ k := Nat.lt_of_lt_of_le (by decide : 9223372036854775808 < 65536 ^ 4) (Nat.pow_le_pow_right (by decide) h4)
  have hm := wd_Minus true 9223372036854775808 (by have := digs_len h63; omega)
  rw [decide_eq_true (by decide)] at hm
  have hp := wd_Plus a 9223372036854775808 (by have := mx_le ha h63; omega)
  generalize digs (a + 9223372036854775808) = L at *
  generalize digs 9223372036854775808 = M at *
  refine Pure.of_sw 10 Try.func118 rfl Try.ntmps118 (by kernel_rfl) (Nat.le_of_ble_eq_true (by kernel_rfl)) (by simp [closeds, wdA_closed, AV.closed]) (by simp [closeds, wdA_closed, AV.closed, uW_closed]) ?_; refine SW.of_vc ?_
  repeat first | refine opsStep ?_ | refine codeStep ?_ | refine drawStep ?_
  refine SW.drawn rfl (by kernel_rfl) ?_
  repeat first | refine opsStep ?_ | refine codeStep ?_ | refine drawStep ?_
  refine .inl ⟨_, _, [], hm, RdsN_refl _, .inr rfl, none_need, ?_⟩
  repeat first | refine opsStep ?_ | refine codeStep ?_ | refine drawStep ?_
  refine .inl ⟨_, _, [], hp, RdsN_refl _, .inr rfl, none_need, ?_⟩
  repeat first | refine opsStep ?_ | refine codeStep ?_ | refine drawStep ?_
  refine ⟨by kernel_rfl, ?_⟩
  repeat first | refine opsStep ?_ | refine codeStep ?_ | refine drawStep ?_
  exact finV (v' := .bool false) (by kernel_rfl) rfl
theorem wd_LessMax (a k : Nat) (hk : k < 2 ^ 30) (h4 : 4 ≤ k) (ha : a < 65536 ^ k) : Pure Try.prog 118 [wdA false (digs 9223372036854775807), wdA false (digs a)] (.bool (decide (9223372036854775807 < a))) := by
  have h63 : (9223372036854775807 : Nat) < 65536 ^ k := Nat.lt_of_lt_of_le (by decide : 9223372036854775807 < 65536 ^ 4) (Nat.pow_le_pow_right (by decide) h4)
  have hmx := mx_le h63 ha
  have hm := wd_Minus false a (by have := digs_len ha; omega)
  by_cases h0 : a = 0
  · subst h0
    have hp := wd_Plus 9223372036854775807 0 (by omega)
    rw [decide_eq_false (by decide)] at hm ⊢
    generalize digs (9223372036854775807 + 0) = L at *
    generalize digs 9223372036854775807 = M at *
    generalize digs 0 = N at *
    refine Pure.of_sw 10 Try.func118 rfl Try.ntmps118 (by kernel_rfl) (Nat.le_of_ble_eq_true (by kernel_rfl)) (by simp [closeds, wdA_closed, AV.closed]) (by simp [closeds, wdA_closed, AV.closed, uW_closed]) ?_; refine SW.of_vc ?_
    repeat first | refine opsStep ?_ | refine codeStep ?_ | refine drawStep ?_
    refine SW.drawn rfl (by kernel_rfl) ?_
    repeat first | refine opsStep ?_ | refine codeStep ?_ | refine drawStep ?_
    refine .inl ⟨_, _, [], hm, RdsN_refl _, .inr rfl, none_need, ?_⟩
    repeat first | refine opsStep ?_ | refine codeStep ?_ | refine drawStep ?_
    refine .inl ⟨_, _, [], hp, RdsN_refl _, .inr rfl, none_need, ?_⟩
    repeat first | refine opsStep ?_ | refine codeStep ?_ | refine drawStep ?_
    refine ⟨by kernel_rfl, ?_⟩
    repeat first | refine opsStep ?_ | refine codeStep ?_ | refine drawStep ?_
    exact finV (v' := .bool false) (by kernel_rfl) rfl
  · rw [decide_eq_true h0] at hm
    obtain ⟨n, L, hp, hn⟩ := wd_PlusM 9223372036854775807 a (by omega)
    rw [← hn]
    clear hn h63 hmx
    generalize digs 9223372036854775807 = M at *
    refine Pure.of_sw 10 Try.func118 rfl Try.ntmps118 (by kernel_rfl) (Nat.le_of_ble_eq_true (by kernel_rfl)) (by simp [closeds, wdA_closed, AV.closed]) (by simp [closeds, wdA_closed, AV.closed, uW_closed]) ?_; refine SW.of_vc ?_
    repeat first | refine opsStep ?_ | refine codeStep ?_ | refine drawStep ?_
    refine SW.drawn rfl (by kernel_rfl) ?_
    repeat first | refine opsStep ?_ | refine codeStep ?_ | refine drawStep ?_
    refine .inl ⟨_, _, [], hm, RdsN_refl _, .inr rfl, none_need, ?_⟩
    repeat first | refine opsStep ?_ | refine codeStep ?_ | refine drawStep ?_
    refine .inl ⟨_, _, [], hp, RdsN_refl _, .inr rfl, none_need, ?_⟩
    repeat first | refine opsStep ?_ | refine codeStep ?_ | refine drawStep ?_
    refine ⟨by kernel_rfl, ?_⟩
    repeat first | refine opsStep ?_ | refine codeStep ?_ | refine drawStep ?_
    exact finV (v' := .bool n) (by kernel_rfl) rfl

end Tab

/- tabardref01.Fits; tabardref20.told. -/
namespace Tab
open Go Go.Proofs
set_option maxRecDepth 10000
set_option linter.unusedVariables false
set_option linter.unusedSimpArgs false
set_option linter.unusedSectionVars false

theorem u64_put (n d : Nat) (hn : n < 281474976710656) (hd : d < 65536) : IntKind.wrap .u64 ((BitVec.ofInt (IntKind.bits .u64) (IntKind.wrap .u64 ((n : Int) * 2 ^ (min ((16 : Nat) : Int).toNat 64))) ||| BitVec.ofInt (IntKind.bits .u64) (d : Int)).toNat) = ((n * 65536 + d : Nat) : Int) := by
  have e0 : IntKind.wrap .u64 ((n : Int) * 2 ^ (min ((16 : Nat) : Int).toNat 64)) = ((2 ^ 16 * n : Nat) : Int) := by
    rw [show (2 : Int) ^ (min ((16 : Nat) : Int).toNat 64) = 65536 from rfl, IntWalk.u64_in _ (by omega)]; omega
  rw [e0]
  have h1 : (BitVec.ofInt (IntKind.bits .u64) ((2 ^ 16 * n : Nat) : Int) ||| BitVec.ofInt (IntKind.bits .u64) (d : Int)).toNat = 2 ^ 16 * n + d := by
    rw [BitVec.toNat_or]
    have e1 : (BitVec.ofInt (IntKind.bits .u64) ((2 ^ 16 * n : Nat) : Int)).toNat = 2 ^ 16 * n := by
      rw [show IntKind.bits .u64 = 64 from rfl, BitVec.toNat_ofInt]; omega
    have e2 : (BitVec.ofInt (IntKind.bits .u64) (d : Int)).toNat = d := by
      rw [show IntKind.bits .u64 = 64 from rfl, BitVec.toNat_ofInt]; omega
    rw [e1, e2, Nat.two_pow_add_eq_or_of_lt (by omega)]
  rw [h1, IntWalk.u64_in _ (by omega)]; omega

theorem wd_Fits (a k : Nat) (hk : k < 2 ^ 30) (h4 : 4 ≤ k) (ha : a < 65536 ^ k) :
    Pure Try.prog 90 [wdA false (digs a)] (.tup [.int .i64 (if a < 9223372036854775808 then (a : Nat) else 0), .bool (decide (a < 9223372036854775808))]) := by
  have ho1 := wd_OfMin
  have ho2 := wd_Of 9223372036854775807 (by omega)
  have hl1 := wd_LessMin a k hk h4 ha
  have hl2 := wd_LessMax a k hk h4 ha
  have hlen := digs_len ha
  have hget := fun i => digs_get i a
  have hlt := digs_big (digs a).length (Nat.le_refl _)
  by_cases hf : a < 9223372036854775808
  · rw [decide_eq_false (by omega)] at hl2
    rw [if_pos hf, decide_eq_true hf]
    have hw63 : IntKind.wrap .i64 (a : Int) = (a : Int) := IntWalk.i64_in _ (by omega)
    generalize digs 9223372036854775807 = M1 at *
    generalize digs 9223372036854775808 = M2 at *
    refine Pure.of_sw 36 Try.func90 rfl Try.ntmps90 (by kernel_rfl) (Nat.le_of_ble_eq_true (by kernel_rfl)) (by simp [closeds, wdA_closed, AV.closed]) (by simp [closeds, wdA_closed, AV.closed, uW_closed]) ?_; refine SW.of_vc ?_
    repeat first | refine opsStep ?_ | refine codeStep ?_ | refine drawStep ?_
    refine SW.drawn rfl (by kernel_rfl) ?_
    repeat first | refine opsStep ?_ | refine codeStep ?_ | refine drawStep ?_
    refine .inl ⟨_, _, [], ho1, RdsN_refl _, .inr rfl, none_need, ?_⟩
    repeat first | refine opsStep ?_ | refine codeStep ?_ | refine drawStep ?_
    refine .inl ⟨_, _, [], hl1, RdsN_refl _, .inr rfl, none_need, ?_⟩
    repeat first | refine opsStep ?_ | refine codeStep ?_ | refine drawStep ?_
    refine .inl ⟨_, _, [], ho2, RdsN_refl _, .inr rfl, none_need, ?_⟩
    repeat first | refine opsStep ?_ | refine codeStep ?_ | refine drawStep ?_
    refine .inl ⟨_, _, [], hl2, RdsN_refl _, .inr rfl, none_need, ?_⟩
    repeat first | refine opsStep ?_ | refine codeStep ?_ | refine drawStep ?_
    refine ⟨by kernel_rfl, ?_⟩
    repeat first | refine opsStep ?_ | refine codeStep ?_ | refine drawStep ?_
    refine loopE_of (ι := {j : Nat // j ≤ (digs a).length}) (fun j => (fr [(1, .ref 0 0 0), (4, .int .u64 (a / 65536 ^ j.1 : Nat)), (5, .int .i64 ((j.1 : Nat) - 1 : Int))], [.cells 0 [.bool false, wS (digs a)]])) (fun j => j.1) ⟨(digs a).length, Nat.le_refl _⟩
      (Ent.fr' ⟨(by kernel_rfl), (Eq.trans (b := .int .u64 0) (by kernel_rfl) (by rw [Nat.div_eq_of_lt hlt]; rfl)), (Eq.trans (b := .int .i64 (IntKind.wrap .i64 (((digs a).length : Int) - 1))) (by kernel_rfl) (by rw [IntWalk.i64_in _ (by omega)])), trivial⟩ (by kernel_rfl)) ?_
    rintro ⟨j, hj⟩
    cases j with
    | zero =>
      repeat first | refine opsStep ?_ | refine codeStep ?_ | refine drawStep ?_
      exact finV (v' := .tup [.int .i64 (IntKind.wrap .i64 ((a / 65536 ^ 0 : Nat) : Int)), .bool true]) (by kernel_rfl) (by rw [Nat.pow_zero, Nat.div_one, hw63])
    | succ j =>
      have hg := hget j
      have hgu : (uW (digs a))[j]? = some (.int .u64 ((digs a)[j] : Nat)) := by rw [uW_get, List.getElem?_eq_getElem hj]; rfl
      rw [List.getElem?_eq_getElem hj, Option.getD_some] at hg
      have hdl : a / 65536 ^ j % 65536 < 65536 := Nat.mod_lt _ (by decide)
      have hdv := div_step a j
      have hns : a / 65536 ^ (j + 1) < 281474976710656 := by
        have h1 : a / 65536 ^ (j + 1) ≤ a / 65536 := by rw [Nat.pow_succ, Nat.mul_comm, ← Nat.div_div_eq_div_mul]; exact Nat.div_le_self _ _
        omega
      rw [hg] at hgu
      have hput := u64_put _ _ hns hdl
      rw [← hdv] at hput
      generalize a / 65536 ^ j % 65536 = x at *
      obtain ⟨n, hn⟩ : ∃ n, a / 65536 ^ (j + 1) = n := ⟨_, rfl⟩
      rw [hn] at hput
      refine VCode.ent (Ent.fr' (l := [(1, .ref 0 0 0), (4, .int .u64 (n : Nat)), (5, .int .i64 (j : Nat))]) (H' := [.cells 0 [.bool false, wS (digs a)]]) ⟨(by kernel_rfl), (Eq.trans (b := .int .u64 (a / 65536 ^ (j + 1) : Nat)) (by kernel_rfl) (by rw [hn])), (Eq.trans (b := .int .i64 (((j + 1 : Nat) : Int) - 1)) (by kernel_rfl) (by congr 1; omega)), trivial⟩ (by kernel_rfl)) ?_
      repeat first | refine opsStep ?_ | refine codeStep ?_ | refine drawStep ?_
      refine guardE_of (by show (0 : Int) ≤ ((j : Nat) : Int) ∧ ((j : Nat) : Int) < (((digs a).length : Nat) : Int); omega) ?_
      repeat first | refine opsStep ?_ | refine codeStep ?_ | refine drawStep ?_
      refine optE_of (c := .int .u64 (x : Nat)) (by simpa [Value.cells] using hgu) ?_
      repeat first | refine opsStep ?_ | refine codeStep ?_ | refine drawStep ?_
      exact ⟨⟨j, by omega⟩, (by show j < j + 1; omega), Ent.fr' ⟨(by kernel_rfl), (Eq.trans (b := .int .u64 (IntKind.wrap .u64 ((BitVec.ofInt (IntKind.bits .u64) (IntKind.wrap .u64 ((n : Int) * 2 ^ (min ((16 : Nat) : Int).toNat 64))) ||| BitVec.ofInt (IntKind.bits .u64) (x : Int)).toNat))) (by kernel_rfl) (by rw [hput])), dec_slot' (i := j) (by omega), trivial⟩ (by kernel_rfl)⟩
  · rw [decide_eq_true (by omega)] at hl2
    rw [if_neg hf, decide_eq_false hf]
    generalize digs 9223372036854775807 = M1 at *
    generalize digs 9223372036854775808 = M2 at *
    refine Pure.of_sw 36 Try.func90 rfl Try.ntmps90 (by kernel_rfl) (Nat.le_of_ble_eq_true (by kernel_rfl)) (by simp [closeds, wdA_closed, AV.closed]) (by simp [closeds, wdA_closed, AV.closed, uW_closed]) ?_; refine SW.of_vc ?_
    repeat first | refine opsStep ?_ | refine codeStep ?_ | refine drawStep ?_
    refine SW.drawn rfl (by kernel_rfl) ?_
    repeat first | refine opsStep ?_ | refine codeStep ?_ | refine drawStep ?_
    refine .inl ⟨_, _, [], ho1, RdsN_refl _, .inr rfl, none_need, ?_⟩
    repeat first | refine opsStep ?_ | refine codeStep ?_ | refine drawStep ?_
    refine .inl ⟨_, _, [], hl1, RdsN_refl _, .inr rfl, none_need, ?_⟩
    repeat first | refine opsStep ?_ | refine codeStep ?_ | refine drawStep ?_
    refine .inl ⟨_, _, [], ho2, RdsN_refl _, .inr rfl, none_need, ?_⟩
    repeat first | refine opsStep ?_ | refine codeStep ?_ | refine drawStep ?_
    refine .inl ⟨_, _, [], hl2, RdsN_refl _, .inr rfl, none_need, ?_⟩
    repeat first | refine opsStep ?_ | refine codeStep ?_ | refine drawStep ?_
    refine ⟨by kernel_rfl, ?_⟩
    repeat first | refine opsStep ?_ | refine codeStep ?_ | refine drawStep ?_
    exact finV (v' := .tup [.int .i64 0, .bool false]) (by kernel_rfl) rfl

theorem r20_told (a k : Nat) (hk : k < 2 ^ 30) (h4 : 4 ≤ k) (ha : a < 65536 ^ k) :
    Pure Try.prog 44 [wdA false (digs a)] (.tup [.int .i64 (if a < 9223372036854775808 then (a : Nat) else 0), .int .i64 (if a < 9223372036854775808 then 0 else 200)]) := by
  have hf := wd_Fits a k hk h4 ha
  by_cases h : a < 9223372036854775808
  · rw [if_pos h, decide_eq_true h] at hf
    rw [if_pos h, if_pos h]
    generalize digs a = L at *
    refine Pure.of_sw 14 Try.func44 rfl Try.ntmps44 (by kernel_rfl) (Nat.le_of_ble_eq_true (by kernel_rfl)) (by simp [closeds, wdA_closed, AV.closed]) (by simp [closeds, wdA_closed, AV.closed, uW_closed]) ?_; refine SW.of_vc ?_
    repeat first | refine opsStep ?_ | refine codeStep ?_ | refine drawStep ?_
    refine callP hf ?_
    repeat first | refine opsStep ?_ | refine codeStep ?_ | refine drawStep ?_
    exact finV (v' := .tup [.int .i64 (a : Nat), .int .i64 0]) (by kernel_rfl) rfl
  · rw [if_neg h, decide_eq_false h] at hf
    rw [if_neg h, if_neg h]
    generalize digs a = L at *
    refine Pure.of_sw 14 Try.func44 rfl Try.ntmps44 (by kernel_rfl) (Nat.le_of_ble_eq_true (by kernel_rfl)) (by simp [closeds, wdA_closed, AV.closed]) (by simp [closeds, wdA_closed, AV.closed, uW_closed]) ?_; refine SW.of_vc ?_
    repeat first | refine opsStep ?_ | refine codeStep ?_ | refine drawStep ?_
    refine callP hf ?_
    repeat first | refine opsStep ?_ | refine codeStep ?_ | refine drawStep ?_
    exact finV (v' := .tup [.int .i64 0, .int .i64 200]) (by kernel_rfl) rfl

end Tab

/- Numbers named anew, as they are met. -/
namespace Tab
open Go Go.Proofs
set_option maxRecDepth 10000
set_option linter.unusedVariables false
set_option linter.unusedSimpArgs false
set_option linter.unusedSectionVars false

theorem mapII : NumMap Try.prog 216 3 3 where
  map := (by kernel_rfl)
  law := Maps.int_keyed (q := .i64) (by kernel_rfl)
  zero w := by
    obtain ⟨i, hi⟩ : ∃ i, Try.prog.info? 3 = some i := ⟨_, rfl⟩
    exact run_zero' (i := _) (z := .int .i64 0) rfl (by kernel_rfl) w

def denL (l : List Int) : List Int := (List.range l.length).map fun j => ((metL [] l).idxOf (l.getD j 0) : Int)

theorem keyI {x : Int} (h : -(2^63) ≤ x ∧ x < 2^63) : keyOf Try.prog 3 (.int .i64 x) = some (.int .i64 x) := by
  refine Maps.keyOf_int_mk (q := .i64) (by kernel_rfl) ?_
  simp only [Lit.wf, Bool.and_eq_true, decide_eq_true_eq, show IntKind.i64.min = -9223372036854775808 from rfl, show IntKind.i64.max = 9223372036854775807 from rfl]
  omega

theorem canon_dense (k : SK) (l : List Int) (hl : l.length < 2^40) (hv : ∀ v ∈ l, -(2^63) ≤ v ∧ v < 2^63) : Pure Try.prog 169 [aIs k l] (.tup [aIs .any (denL l), .int .i64 ((metL [] l).length : Nat)]) := by
  refine Pure.of_read (by simp [closeds, AV.closed, aIs_closed]) (by simp [closeds, AV.closed, aIs_closed]) (R := fun o H' => o = .ret (.tup [.hs 1 0 0 l.length 1, .int .i64 ((metL [] l).length : Nat)]) ∧ H' = [.dict (dI ((metL [] l).map (Value.int .i64))), .cells 0 ((denL l).map (.int .i64))]) ?_ ?_
  rotate_left
  · rintro o H' ⟨rfl, rfl⟩
    refine ⟨_, rfl, .tup (.cons ?_ (.cons (.refl _) .nil))⟩
    rw [aIs, show (denL l).length = l.length by simp [denL]]
    exact Rd.whole (b := 1) rfl (by simp [denL])
  refine ACall.of_sw 42 Try.func169 rfl Try.ntmps169 (by kernel_rfl) (Nat.le_of_ble_eq_true (by kernel_rfl)) ?_; refine SW.of_vc ?_
  repeat first | refine opsStep ?_ | refine codeStep ?_ | refine drawStep ?_
  refine guardE_of ⟨by omega, by omega, by show (8 : Int) * (l.length : Int) ≤ 281474976710656; omega, by omega⟩ ?_
  repeat first | refine opsStep ?_ | refine codeStep ?_ | refine drawStep ?_
  refine loopE_of (ι := {i : Nat // i ≤ l.length})
    (fun i => (fr [(0, aIs k l), (4, .mp 0), (5, .hs 1 0 0 l.length 1), (14, aIs k l), (15, .int .i64 l.length), (16, .int .i64 i.1)], [.dict (dI ((metL [] (l.take i.1)).map (Value.int .i64))), .cells 0 ((partL (fun j => ((metL [] l).idxOf (l.getD j 0) : Int)) l.length i.1).map (.int .i64))]))
    (fun i => l.length - i.1) ⟨0, by omega⟩ (Ent.fr' ⟨(by kernel_rfl), (by kernel_rfl), (by kernel_rfl), (by kernel_rfl), (by kernel_rfl), (by kernel_rfl), trivial⟩ ?_) ?_
  · refine Eq.trans (b := [.dict [], Blk.cells 0 (reps [.int .i64 0] l.length)]) (by kernel_rfl) ?_
    rw [reps_one, partL_zero]; simp [metL, dI_nil]
  rintro ⟨i, hi⟩
  have hnd := metL_nodup (l.take i) [] List.nodup_nil
  have hnd2 : ((metL [] (l.take i)).map (Value.int .i64)).Nodup := List.Pairwise.map _ (fun a b h e => h (by injection e)) hnd
  have hks : ∀ x ∈ (metL [] (l.take i)).map (Value.int .i64), ∃ q, keyOf Try.prog 3 x = some q := fun x hx => by
    obtain ⟨y, hy, rfl⟩ := List.mem_map.1 hx
    rcases (metL_mem y _ _).1 hy with h | h
    · simp at h
    · exact ⟨_, keyI (hv y (List.mem_of_mem_take h))⟩
  have hml := metL_len (l.take i) []
  have hpl := partL_length (fun j => ((metL [] l).idxOf (l.getD j 0) : Int)) l.length i
  repeat first | refine opsStep ?_ | refine codeStep ?_ | refine drawStep ?_
  refine decB_dec (fun h => ?_) (fun h => ?_)
  · have hia : i < l.length := by have := h; simp at this; omega
    have hx := hv _ (List.getElem_mem hia)
    have gx : l.getD i 0 = l[i] := by simp [List.getD_eq_getElem?_getD, hia]
    repeat first | refine opsStep ?_ | refine codeStep ?_ | refine drawStep ?_
    refine guardE_of (by simp; omega) ?_
    repeat first | refine opsStep ?_ | refine codeStep ?_ | refine drawStep ?_
    refine optE_of (c := .int .i64 l[i]) (by simp [Value.cells, hia]) ?_
    repeat first | refine opsStep ?_ | refine codeStep ?_ | refine drawStep ?_
    refine look_num mapII (kv := .int .i64 l[i]) rfl (keyI hx) hnd2 hks (fun p hp => ?_) (fun hp => ?_)
    · obtain ⟨q, hq, hqe⟩ : ∃ q, (metL [] (l.take i))[p]? = some q ∧ Value.int .i64 q = .int .i64 l[i] := by
        rw [List.getElem?_map, Option.map_eq_some_iff] at hp; exact hp
      obtain ⟨g1, g2⟩ := metL_hit hia (hq.trans (congrArg some (by injection hqe)))
      repeat first | refine opsStep ?_ | refine codeStep ?_ | refine drawStep ?_
      refine guardE_of (by simp; omega) ?_
      repeat first | refine opsStep ?_ | refine codeStep ?_ | refine drawStep ?_
      refine guardE_of ⟨rfl, by decide, by show 0 + i * 1 + 1 ≤ ((partL (fun j => ((metL [] l).idxOf (l.getD j 0) : Int)) l.length i).map (AV.int .i64)).length; rw [List.length_map, hpl]; omega⟩ ?_
      repeat first | refine opsStep ?_ | refine codeStep ?_ | refine drawStep ?_
      refine ⟨⟨i + 1, by omega⟩, (by show l.length - (i + 1) < l.length - i; omega), Ent.fr' ⟨(by kernel_rfl), (by kernel_rfl), (by kernel_rfl), (by kernel_rfl), (by kernel_rfl), inc_slot (i := i) (by omega), trivial⟩ ?_⟩
      refine Eq.trans (b := [.dict (dI ((metL [] (l.take i)).map (Value.int .i64))), Blk.cells 0 (over ((partL (fun j => ((metL [] l).idxOf (l.getD j 0) : Int)) l.length i).map (AV.int .i64)) (0 + i * 1) [.int .i64 (p : Nat)])]) (by kernel_rfl) ?_
      show _ = [.dict (dI ((metL [] (l.take (i + 1))).map (Value.int .i64))), Blk.cells 0 ((partL (fun j => ((metL [] l).idxOf (l.getD j 0) : Int)) l.length (i + 1)).map (.int .i64))]
      rw [Nat.zero_add, Nat.mul_one, over_one (by rw [List.length_map, hpl]; omega), g2, ← partL_step, gx, g1, List.map_set]
    · have hm : l[i] ∉ metL [] (l.take i) := fun h => hp (List.mem_map.2 ⟨_, h, rfl⟩)
      obtain ⟨g1, g2⟩ := metL_miss hia hm
      repeat first | refine opsStep ?_ | refine codeStep ?_ | refine drawStep ?_
      refine put_num mapII (kv := .int .i64 l[i]) (n := (dI ((metL [] (l.take i)).map (Value.int .i64))).length) rfl (keyI hx) hks hp (dI_length _) ?_
      repeat first | refine opsStep ?_ | refine codeStep ?_ | refine drawStep ?_
      refine guardE_of (by simp; omega) ?_
      repeat first | refine opsStep ?_ | refine codeStep ?_ | refine drawStep ?_
      refine guardE_of ⟨rfl, by decide, by show 0 + i * 1 + 1 ≤ ((partL (fun j => ((metL [] l).idxOf (l.getD j 0) : Int)) l.length i).map (AV.int .i64)).length; rw [List.length_map, hpl]; omega⟩ ?_
      repeat first | refine opsStep ?_ | refine codeStep ?_ | refine drawStep ?_
      refine ⟨⟨i + 1, by omega⟩, (by show l.length - (i + 1) < l.length - i; omega), Ent.fr' ⟨(by kernel_rfl), (by kernel_rfl), (by kernel_rfl), (by kernel_rfl), (by kernel_rfl), inc_slot (i := i) (by omega), trivial⟩ ?_⟩
      refine Eq.trans (b := [.dict (dI ((metL [] (l.take i)).map (Value.int .i64) ++ [.int .i64 l[i]])), Blk.cells 0 (over ((partL (fun j => ((metL [] l).idxOf (l.getD j 0) : Int)) l.length i).map (AV.int .i64)) (0 + i * 1) [.int .i64 ((dI ((metL [] (l.take i)).map (Value.int .i64))).length : Nat)])]) (by kernel_rfl) ?_
      show _ = [.dict (dI ((metL [] (l.take (i + 1))).map (Value.int .i64))), Blk.cells 0 ((partL (fun j => ((metL [] l).idxOf (l.getD j 0) : Int)) l.length (i + 1)).map (.int .i64))]
      rw [Nat.zero_add, Nat.mul_one, over_one (by rw [List.length_map, hpl]; omega), g2, ← partL_step, gx, g1, List.map_set, List.map_append, dI_length, List.length_map]
      rfl
  · have hil : i = l.length := by have := h; simp at this; omega
    subst hil
    repeat first | refine opsStep ?_ | refine codeStep ?_ | refine drawStep ?_
    refine finR (l := [(2, .hs 1 0 0 l.length 1), (3, .int .i64 ((dI ((metL [] (l.take l.length)).map (Value.int .i64))).length : Nat))]) (H₁ := [.dict (dI ((metL [] (l.take l.length)).map (Value.int .i64))), .cells 0 ((partL (fun j => ((metL [] l).idxOf (l.getD j 0) : Int)) l.length l.length).map (.int .i64))])
      (v := .tup [.hs 1 0 0 l.length 1, .int .i64 ((dI ((metL [] (l.take l.length)).map (Value.int .i64))).length : Nat)]) ⟨(by kernel_rfl), (by kernel_rfl), trivial⟩ (by kernel_rfl) (Ent.refl _ _ _) (by kernel_rfl) ?_
    rw [dI_length, List.length_map, partL_full, List.take_length]
    exact ⟨rfl, rfl⟩

end Tab

/- Names: which characters they are made of. -/
namespace Tab
open Go Go.Proofs
set_option maxRecDepth 10000
set_option linter.unusedVariables false
set_option linter.unusedSimpArgs false
set_option linter.unusedSectionVars false

def startR (r : Int) : Bool := (decide (65 ≤ r) && decide (r ≤ 90)) || (decide (97 ≤ r) && decide (r ≤ 122)) || decide (r = 95) || (decide (913 ≤ r) && decide (r ≤ 929)) || (decide (931 ≤ r) && decide (r ≤ 937)) || (decide (945 ≤ r) && decide (r ≤ 969))
def restR (r : Int) : Bool := startR r || (decide (48 ≤ r) && decide (r ≤ 57)) || decide (r = 8242) || (decide (8320 ≤ r) && decide (r ≤ 8329))
def resWords : List (List UInt8) := [[97, 110, 100], [111, 114], [110, 111, 116], [101, 120], [97, 108, 108], [109, 111, 100], [116, 114, 117, 101], [102, 97, 108, 115, 101]]
def resS (s : List UInt8) : Bool := decide (s ∈ resWords)

theorem glyph_Start (r : Int) : Pure Try.prog 124 [.int .i32 r] (.bool (startR r)) := by
  refine Pure.of_sw 37 Try.func124 rfl Try.ntmps124 (by kernel_rfl) (Nat.le_of_ble_eq_true (by kernel_rfl)) (by simp [closeds, AV.closed, aSs_closed, aIs_closed, aBs_closed, aRs_closed, aDen_closed]) (by simp [AV.closed, closeds, aSs_closed, aIs_closed, aBs_closed, aRs_closed, aDen_closed]) ?_; refine SW.of_vc ?_
  repeat' first | refine opsStep ?_ | refine codeStep ?_ | refine decB_split (fun h => ?_) (fun h => ?_)
  all_goals exact finB rfl (by simp at *; simp [startR]; omega)

theorem glyph_Rest (r : Int) : Pure Try.prog 125 [.int .i32 r] (.bool (restR r)) := by
  refine Pure.of_sw 25 Try.func125 rfl Try.ntmps125 (by kernel_rfl) (Nat.le_of_ble_eq_true (by kernel_rfl)) (by simp [closeds, AV.closed, aSs_closed, aIs_closed, aBs_closed, aRs_closed, aDen_closed]) (by simp [AV.closed, closeds, aSs_closed, aIs_closed, aBs_closed, aRs_closed, aDen_closed]) ?_; refine SW.of_vc ?_
  repeat first | refine opsStep ?_ | refine codeStep ?_ | refine drawStep ?_
  refine callP (glyph_Start r) ?_
  repeat first | refine opsStep ?_ | refine codeStep ?_ | refine drawStep ?_
  refine decB_split (fun h => ?_) (fun h => ?_)
  · repeat first | refine opsStep ?_ | refine codeStep ?_ | refine drawStep ?_
    exact finB rfl (by simp [restR, h])
  · repeat' first | refine opsStep ?_ | refine codeStep ?_ | refine decB_split (fun h => ?_) (fun h => ?_)
    all_goals exact finB rfl (by simp at *; simp [restR, *]; try omega)

theorem glyph_Reserved (s : List UInt8) : Pure Try.prog 126 [.str s] (.bool (resS s)) := by
  refine Pure.of_sw 13 Try.func126 rfl Try.ntmps126 (by kernel_rfl) (Nat.le_of_ble_eq_true (by kernel_rfl)) (by simp [closeds, AV.closed, aSs_closed, aIs_closed, aBs_closed, aRs_closed, aDen_closed]) (by simp [AV.closed, closeds, aSs_closed, aIs_closed, aBs_closed, aRs_closed, aDen_closed]) ?_; refine SW.of_vc ?_
  repeat first | refine opsStep ?_ | refine codeStep ?_ | refine drawStep ?_
  repeat' first | refine opsStep ?_ | refine codeStep ?_ | refine decB_split (fun h => ?_) (fun h => ?_)
  all_goals exact finB rfl (by simp_all [resS, resWords])

attribute [irreducible] startR restR resS
end Tab

/- Names as the reference reads them. -/
namespace Tab
open Go Go.Proofs
set_option maxRecDepth 10000
set_option linter.unusedVariables false
set_option linter.unusedSimpArgs false
set_option linter.unusedSectionVars false

def inR (r : Int) : List Int → Bool
  | a :: b :: l => (decide (a ≤ r) && decide (r ≤ b)) || inR r l
  | _ => false

theorem inR_short {r : Int} {l : List Int} (h : l.length ≤ 1) : inR r l = false := by
  match l, h with
  | [], _ => rfl
  | [_], _ => rfl

theorem inR_drop {r : Int} {l : List Int} {i : Nat} (h : i + 1 < l.length) : inR r (l.drop i) = ((decide (l[i] ≤ r) && decide (r ≤ l[i + 1])) || inR r (l.drop (i + 2))) := by
  rw [List.drop_eq_getElem_cons (by omega), List.drop_eq_getElem_cons (by omega)]
  rfl

theorem r04_within (k : SK) (r : Int) (l : List Int) (hl : l.length < 2^62) : Pure Try.prog 171 [.int .i64 r, aIs k l] (.bool (inR r l)) := by
  refine Pure.of_sw 28 Try.func171 rfl Try.ntmps171 (by kernel_rfl) (Nat.le_of_ble_eq_true (by kernel_rfl)) (by simp [closeds, AV.closed, aSs_closed, aIs_closed, aBs_closed, aRs_closed, aDen_closed]) (by simp [AV.closed, closeds, aSs_closed, aIs_closed, aBs_closed, aRs_closed, aDen_closed]) ?_; refine SW.of_vc ?_
  repeat first | refine opsStep ?_ | refine codeStep ?_ | refine drawStep ?_
  refine loopE_of (ι := {i : Nat // i ≤ l.length + 1 ∧ inR r l = inR r (l.drop i)}) (fun i => (fr [(0, .int .i64 r), (1, aIs k l), (5, .int .i64 i.1)], [])) (fun i => l.length + 2 - i.1) ⟨0, by omega, by simp⟩ (Ent.fr ⟨rfl, rfl, rfl, trivial⟩) ?_
  rintro ⟨i, hi, hpre⟩
  have hw : IntKind.wrap .i64 ((i : Int) + 1) = i + 1 := IntWalk.i64_in _ (by omega)
  repeat first | refine opsStep ?_ | refine codeStep ?_ | refine drawStep ?_
  refine decB_split (fun h => ?_) (fun h => ?_)
  · have hi1 : i + 1 < l.length := by simp [hw] at h; omega
    repeat first | refine opsStep ?_ | refine codeStep ?_ | refine drawStep ?_
    refine guardE_of (by simp; omega) ?_
    repeat first | refine opsStep ?_ | refine codeStep ?_ | refine drawStep ?_
    refine optE_of (c := .int .i64 l[i]) (by simp [Value.cells, show i < l.length by omega]) ?_
    repeat first | refine opsStep ?_ | refine codeStep ?_ | refine drawStep ?_
    have hd := inR_drop (r := r) hi1
    refine decB_split (fun h => ?_) (fun h => ?_)
    · repeat first | refine opsStep ?_ | refine codeStep ?_ | refine drawStep ?_
      refine guardE_of (by simp [hw]; omega) ?_
      repeat first | refine opsStep ?_ | refine codeStep ?_ | refine drawStep ?_
      refine optE_of (c := .int .i64 l[i+1]) (by simp [Value.cells, hw, hi1]) ?_
      repeat first | refine opsStep ?_ | refine codeStep ?_ | refine drawStep ?_
      refine decB_split (fun h => ?_) (fun h => ?_)
      · repeat first | refine opsStep ?_ | refine codeStep ?_ | refine drawStep ?_
        exact finB rfl (by simp at *; rw [hpre, hd]; simp [*])
      · repeat first | refine opsStep ?_ | refine codeStep ?_ | refine drawStep ?_
        refine ⟨⟨i + 2, by omega, by rw [hpre, hd]; simp_all; try (intros; omega)⟩, (by show l.length + 2 - (i + 2) < l.length + 2 - i; omega), Ent.fr' ⟨(by kernel_rfl), (by kernel_rfl), (congrArg (AV.int .i64) (IntWalk.i64_in ((i : Int) + 2) (by omega)) : _), trivial⟩ (by kernel_rfl)⟩
    · repeat first | refine opsStep ?_ | refine codeStep ?_ | refine drawStep ?_
      refine ⟨⟨i + 2, by omega, by rw [hpre, hd]; simp_all; try (intros; omega)⟩, (by show l.length + 2 - (i + 2) < l.length + 2 - i; omega), Ent.fr' ⟨(by kernel_rfl), (by kernel_rfl), (congrArg (AV.int .i64) (IntWalk.i64_in ((i : Int) + 2) (by omega)) : _), trivial⟩ (by kernel_rfl)⟩
  · repeat first | refine opsStep ?_ | refine codeStep ?_ | refine drawStep ?_
    exact finB rfl (by rw [hpre, inR_short]; simp [hw] at h; simp; omega)

theorem r04_Start (r : Int) : Pure Try.prog 155 [.int .i64 r] (.bool (startR r)) := by
  refine Pure.of_sw 6 Try.func155 rfl Try.ntmps155 (by kernel_rfl) (Nat.le_of_ble_eq_true (by kernel_rfl)) (by simp [closeds, AV.closed, aSs_closed, aIs_closed, aBs_closed, aRs_closed, aDen_closed]) (by simp [AV.closed, closeds, aSs_closed, aIs_closed, aBs_closed, aRs_closed, aDen_closed]) ?_; refine SW.of_vc ?_
  repeat first | refine opsStep ?_ | refine codeStep ?_ | refine drawStep ?_
  refine optX_of (c := [65, 90, 97, 122, 95, 95, 0x391, 0x3a1, 0x3a3, 0x3a9, 0x3b1, 0x3c9].map (.int .i64)) (by kernel_rfl) ?_
  repeat first | refine opsStep ?_ | refine codeStep ?_ | refine drawStep ?_
  refine callB (r04_within .any r [65, 90, 97, 122, 95, 95, 0x391, 0x3a1, 0x3a3, 0x3a9, 0x3b1, 0x3c9] (by simp)) rfl (.cons (.refl _) (.cons (.whole (by kernel_rfl) (by kernel_rfl)) .nil)) ?_
  repeat first | refine opsStep ?_ | refine codeStep ?_ | refine drawStep ?_
  exact finB rfl (by rw [Bool.eq_iff_iff]; simp [inR, startR]; omega)

theorem r04_Rest (r : Int) : Pure Try.prog 156 [.int .i64 r] (.bool (restR r)) := by
  refine Pure.of_sw 10 Try.func156 rfl Try.ntmps156 (by kernel_rfl) (Nat.le_of_ble_eq_true (by kernel_rfl)) (by simp [closeds, AV.closed, aSs_closed, aIs_closed, aBs_closed, aRs_closed, aDen_closed]) (by simp [AV.closed, closeds, aSs_closed, aIs_closed, aBs_closed, aRs_closed, aDen_closed]) ?_; refine SW.of_vc ?_
  repeat first | refine opsStep ?_ | refine codeStep ?_ | refine drawStep ?_
  refine callP (r04_Start r) ?_
  repeat first | refine opsStep ?_ | refine codeStep ?_ | refine drawStep ?_
  refine decB_split (fun h => ?_) (fun h => ?_)
  · repeat first | refine opsStep ?_ | refine codeStep ?_ | refine drawStep ?_
    exact finB rfl (by simp [restR, h])
  · repeat first | refine opsStep ?_ | refine codeStep ?_ | refine drawStep ?_
    refine optX_of (c := [48, 57, 0x2032, 0x2032, 0x2080, 0x2089].map (.int .i64)) (by kernel_rfl) ?_
    repeat first | refine opsStep ?_ | refine codeStep ?_ | refine drawStep ?_
    refine callB (r04_within .any r [48, 57, 0x2032, 0x2032, 0x2080, 0x2089] (by simp)) rfl (.cons (.refl _) (.cons (.whole (by kernel_rfl) (by kernel_rfl)) .nil)) ?_
    repeat first | refine opsStep ?_ | refine codeStep ?_ | refine drawStep ?_
    exact finB rfl (by rw [Bool.eq_iff_iff]; simp [inR, restR, h]; omega)

theorem r04_Reserved (s : List UInt8) : Pure Try.prog 157 [.str s] (.bool (resS s)) := by
  refine Pure.of_sw 18 Try.func157 rfl Try.ntmps157 (by kernel_rfl) (Nat.le_of_ble_eq_true (by kernel_rfl)) (by simp [closeds, AV.closed, aSs_closed, aIs_closed, aBs_closed, aRs_closed, aDen_closed]) (by simp [AV.closed, closeds, aSs_closed, aIs_closed, aBs_closed, aRs_closed, aDen_closed]) ?_; refine SW.of_vc ?_
  repeat first | refine opsStep ?_ | refine codeStep ?_ | refine drawStep ?_
  refine optX_of (c := resWords.map .str) (by kernel_rfl) ?_
  repeat first | refine opsStep ?_ | refine codeStep ?_ | refine drawStep ?_
  refine loopE_of (ι := {i : Nat // i ≤ 8 ∧ s ∉ resWords.take i}) (fun i => (fr [(0, .str s), (3, .hs 0 0 0 8 1), (4, .int .i64 i.1)], [.cells 0 (resWords.map .str)])) (fun i => 9 - i.1) ⟨0, by omega, by simp⟩ (Ent.fr' ⟨rfl, rfl, rfl, trivial⟩ (by kernel_rfl)) ?_
  rintro ⟨i, hi, hpre⟩
  repeat first | refine opsStep ?_ | refine codeStep ?_ | refine drawStep ?_
  refine decB_split (fun h => ?_) (fun h => ?_)
  · have hi1 : i < 8 := by simp at h; omega
    have hi2 : i < resWords.length := by simpa [resWords] using hi1
    repeat first | refine opsStep ?_ | refine codeStep ?_ | refine drawStep ?_
    refine guardE_of (by simp; omega) ?_
    repeat first | refine opsStep ?_ | refine codeStep ?_ | refine drawStep ?_
    refine optE_of (c := .str resWords[i]) (by simp [Value.cells, hi2]) ?_
    repeat first | refine opsStep ?_ | refine codeStep ?_ | refine drawStep ?_
    have ht : resWords.take (i + 1) = resWords.take i ++ [resWords[i]] := List.take_succ_eq_append_getElem (by simpa [resWords] using hi1)
    refine decB_split (fun h => ?_) (fun h => ?_)
    · repeat first | refine opsStep ?_ | refine codeStep ?_ | refine drawStep ?_
      exact finB rfl (by simp at h; subst h; simp only [resS]; exact (decide_eq_true (List.getElem_mem hi2)).symm)
    · repeat first | refine opsStep ?_ | refine codeStep ?_ | refine drawStep ?_
      refine ⟨⟨i + 1, by omega, fun e => (List.mem_append.1 (ht ▸ e)).elim hpre (fun e => by simp at h; exact h (List.mem_singleton.1 e).symm)⟩, (by show 9 - (i + 1) < 9 - i; omega), Ent.fr' ⟨(by kernel_rfl), (by kernel_rfl), inc_slot (i := i) (by omega), trivial⟩ (by kernel_rfl)⟩
  · repeat first | refine opsStep ?_ | refine codeStep ?_ | refine drawStep ?_
    have : i = 8 := by simp at h; omega
    subst this
    exact finB rfl (by simp [resS]; exact hpre)

end Tab

/- Characters: what the model decodes, and what the reference reads. -/
namespace Tab
open Go Go.Proofs
set_option maxRecDepth 10000
set_option linter.unusedVariables false
set_option linter.unusedSimpArgs false
set_option linter.unusedSectionVars false

def bt (s : List UInt8) (i : Nat) : Nat := (s.getD i 0).toNat
def ctb (s : List UInt8) (i : Nat) : Bool := decide (i < s.length) && (bt s i / 64 == 2)
def okc (c : Nat) : Bool := Utf8.valid c

theorem bt_get (s : List UInt8) (i : Nat) : ((ByteArray.mk s.toArray).get! i).toNat = bt s i := by
  simp [ByteArray.get!, bt, List.getD_eq_getElem?_getD]
  rfl

theorem dec_def (s : List UInt8) (p : Nat) : dec s p =
    if bt s p < 0x80 then (bt s p, 1)
    else if (bt s p / 32 == 6 && ctb s (p + 1)) = true then
      let c := (bt s p % 32) * 64 + bt s (p + 1) % 64
      if c ≥ 0x80 then (c, 2) else (65533, 1)
    else if (bt s p / 16 == 14 && ctb s (p + 1) && ctb s (p + 2)) = true then
      let c := (bt s p % 16) * 4096 + (bt s (p + 1) % 64) * 64 + bt s (p + 2) % 64
      if (decide (c ≥ 0x800) && okc c) = true then (c, 3) else (65533, 1)
    else if (bt s p / 8 == 30 && ctb s (p + 1) && ctb s (p + 2) && ctb s (p + 3)) = true then
      let c := (bt s p % 8) * 262144 + (bt s (p + 1) % 64) * 4096 + (bt s (p + 2) % 64) * 64 + bt s (p + 3) % 64
      if (decide (c ≥ 0x10000) && okc c) = true then (c, 4) else (65533, 1)
    else (65533, 1) := by
  have hs : (ByteArray.mk s.toArray).size = s.length := by simp [ByteArray.size]
  simp only [dec, Utf8.decode, bt_get, hs, ctb, okc, Nat.add_zero, Utf8.runeError]
  simp only [decide_eq_true_eq, Bool.and_eq_true, ge_iff_le]

def accR (x0 : Int) (s : List UInt8) (p : Nat) : Nat → Int
  | 0 => x0
  | n + 1 => accR x0 s p n * 64 + bt s (p + n + 1) - 128

theorem bt_lt (s : List UInt8) (i : Nat) : bt s i < 256 := by
  unfold bt; exact UInt8.toNat_lt _
theorem ite_cond {α : Type} {q r : Prop} [Decidable q] [Decidable r] {x y x' : α} (h : q ↔ r) (e : q → x = x') : (if q then x else y) = (if r then x' else y) := by
  by_cases hq : q
  · rw [if_pos hq, if_pos (h.1 hq), e hq]
  · rw [if_neg hq, if_neg (fun k => hq (h.2 k))]

theorem fa1 {Q : Nat → Prop} : (∀ j, j < 2 - 1 → Q j) ↔ Q 0 :=
  ⟨fun h => h 0 (by omega), fun h j hj => by have : j = 0 := by omega
                                             subst this; exact h⟩
theorem fa2 {Q : Nat → Prop} : (∀ j, j < 3 - 1 → Q j) ↔ Q 0 ∧ Q 1 :=
  ⟨fun h => ⟨h 0 (by omega), h 1 (by omega)⟩, fun h j hj => by
    have : j = 0 ∨ j = 1 := by omega
    rcases this with rfl | rfl
    · exact h.1
    · exact h.2⟩
theorem fa3 {Q : Nat → Prop} : (∀ j, j < 4 - 1 → Q j) ↔ Q 0 ∧ Q 1 ∧ Q 2 :=
  ⟨fun h => ⟨h 0 (by omega), h 1 (by omega), h 2 (by omega)⟩, fun h j hj => by
    have : j = 0 ∨ j = 1 ∨ j = 2 := by omega
    rcases this with rfl | rfl | rfl
    · exact h.1
    · exact h.2.1
    · exact h.2.2⟩

theorem ctb_iff {s : List UInt8} {i : Nat} : ctb s i = true ↔ i < s.length ∧ bt s i / 64 = 2 := by simp [ctb]
theorem okc_iff {c : Nat} : okc c = true ↔ c < 55296 ∨ (57344 ≤ c ∧ c ≤ 1114111) := by
  simp only [okc, Utf8.valid, Bool.or_eq_true, Bool.and_eq_true, decide_eq_true_eq]; omega

theorem dec2 {s : List UInt8} {p : Nat} (h1 : 194 ≤ bt s p) (h2 : bt s p < 224) : dec s p = if (∀ j, j < 2 - 1 → ctb s (p + j + 1) = true) ∧ (128 : Int) ≤ accR ((bt s p : Int) - 192) s p (2 - 1) ∧ okc (accR ((bt s p : Int) - 192) s p (2 - 1)).toNat = true
    then ((accR ((bt s p : Int) - 192) s p (2 - 1)).toNat, 2) else (65533, 1) := by
  have hb := bt_lt s p
  have hb1 := bt_lt s (p + 1)
  simp only [fa1, accR, Nat.add_zero, okc_iff, ctb_iff]
  rw [dec_def, if_neg (by omega)]
  by_cases hc : p + 1 < s.length ∧ bt s (p + 1) / 64 = 2
  · rw [if_pos (by simp [ctb_iff, hc]; omega)]
    refine ite_cond (by simp only [hc, true_and, and_self]; omega) (fun _ => by simp only [Prod.mk.injEq, and_true]; omega)
  · rw [if_neg (by simp only [Bool.and_eq_true, ctb_iff]; exact fun k => hc k.2), if_neg (by simp; omega), if_neg (by simp; omega), if_neg (fun k => hc k.1)]

theorem dec3 {s : List UInt8} {p : Nat} (h1 : 224 ≤ bt s p) (h2 : bt s p < 240) : dec s p = if (∀ j, j < 3 - 1 → ctb s (p + j + 1) = true) ∧ (2048 : Int) ≤ accR ((bt s p : Int) - 224) s p (3 - 1) ∧ okc (accR ((bt s p : Int) - 224) s p (3 - 1)).toNat = true
    then ((accR ((bt s p : Int) - 224) s p (3 - 1)).toNat, 3) else (65533, 1) := by
  have hb := bt_lt s p
  have hb1 := bt_lt s (p + 1)
  have hb2 := bt_lt s (p + 2)
  simp only [fa2, accR, Nat.add_zero, okc_iff, ctb_iff, show p + 1 + 1 = p + 2 by omega]
  rw [dec_def, if_neg (by omega), if_neg (by simp; omega)]
  by_cases hc : (p + 1 < s.length ∧ bt s (p + 1) / 64 = 2) ∧ (p + 2 < s.length ∧ bt s (p + 2) / 64 = 2)
  · rw [if_pos (by simp [ctb_iff, hc]; omega)]
    refine ite_cond (by simp only [hc, true_and, and_self, Bool.and_eq_true, decide_eq_true_eq, okc_iff]; omega) (fun _ => by simp only [Prod.mk.injEq, and_true]; omega)
  · rw [if_neg (by simp only [Bool.and_eq_true, ctb_iff]; exact fun k => hc ⟨k.1.2, k.2⟩), if_neg (by simp; omega), if_neg (fun k => hc k.1)]

theorem dec4 {s : List UInt8} {p : Nat} (h1 : 240 ≤ bt s p) (h2 : bt s p < 245) : dec s p = if (∀ j, j < 4 - 1 → ctb s (p + j + 1) = true) ∧ (65536 : Int) ≤ accR ((bt s p : Int) - 240) s p (4 - 1) ∧ okc (accR ((bt s p : Int) - 240) s p (4 - 1)).toNat = true
    then ((accR ((bt s p : Int) - 240) s p (4 - 1)).toNat, 4) else (65533, 1) := by
  have hb := bt_lt s p
  have hb1 := bt_lt s (p + 1)
  have hb2 := bt_lt s (p + 2)
  have hb3 := bt_lt s (p + 3)
  simp only [fa3, accR, Nat.add_zero, okc_iff, ctb_iff, show p + 1 + 1 = p + 2 by omega, show p + 2 + 1 = p + 3 by omega]
  rw [dec_def, if_neg (by omega), if_neg (by simp; omega), if_neg (by simp; omega)]
  by_cases hc : (p + 1 < s.length ∧ bt s (p + 1) / 64 = 2) ∧ (p + 2 < s.length ∧ bt s (p + 2) / 64 = 2) ∧ (p + 3 < s.length ∧ bt s (p + 3) / 64 = 2)
  · rw [if_pos (by simp [ctb_iff, hc]; omega)]
    refine ite_cond (by simp only [hc, true_and, and_self, Bool.and_eq_true, decide_eq_true_eq, okc_iff]; omega) (fun _ => by simp only [Prod.mk.injEq, and_true]; omega)
  · rw [if_neg (by simp only [Bool.and_eq_true, ctb_iff]; exact fun k => hc ⟨k.1.1.2, k.1.2, k.2⟩), if_neg (fun k => hc k.1)]

theorem decX {s : List UInt8} {p : Nat} (h : (128 ≤ bt s p ∧ bt s p < 194) ∨ 245 ≤ bt s p) : dec s p = (65533, 1) := by
  have hb := bt_lt s p
  have hb1 := bt_lt s (p + 1)
  have hb2 := bt_lt s (p + 2)
  have hb3 := bt_lt s (p + 3)
  rw [dec_def, if_neg (by omega)]
  simp only [okc_iff, Bool.and_eq_true, decide_eq_true_eq, beq_iff_eq, ge_iff_le]
  split
  · split
    · omega
    · rfl
  · split
    · omega
    · split
      · split
        · omega
        · rfl
      · rfl

theorem bt_at {s : List UInt8} {i : Nat} (h : i < s.length) : (s[i].toNat) = bt s i := by
  simp [bt, List.getD_eq_getElem?_getD, h]

def okd (s : List UInt8) (p : Nat) : Bool := decide (dec s p ≠ (65533, 1))
theorem okd_eq (s : List UInt8) (p : Nat) : okd s p = decide (dec s p ≠ (65533, 1)) := rfl

theorem r04_Read (s : List UInt8) (p : Nat) (hp : p < s.length) (hl : s.length < 2^62) :
    Pure Try.prog 154 [.str s, .int .i64 p] (.tup [.int .i64 (dec s p).1, .int .i64 (dec s p).2, .bool (okd s p)]) := by
  rw [okd_eq]
  refine Pure.of_sw 92 Try.func154 rfl Try.ntmps154 (by kernel_rfl) (Nat.le_of_ble_eq_true (by kernel_rfl)) (by simp [closeds, AV.closed, aSs_closed, aIs_closed, aBs_closed, aRs_closed, aDen_closed]) (by simp [AV.closed, closeds, aSs_closed, aIs_closed, aBs_closed, aRs_closed, aDen_closed]) ?_; refine SW.of_vc ?_
  repeat first | refine opsStep ?_ | refine codeStep ?_ | refine drawStep ?_
  refine optE_of (c := s[p]) (by simp [hp]) ?_
  repeat first | refine opsStep ?_ | refine codeStep ?_ | refine drawStep ?_
  have hb := bt_lt s p
  rw [bt_at hp]
  have hw : IntKind.wrap .i64 (bt s p) = (bt s p : Int) := IntWalk.i64_in _ (by omega)
  have key : ∀ (w : Nat) (least x0 : Int), 2 ≤ w → w ≤ 4 → 0 ≤ x0 → x0 < 64 →
      (dec s p = if (∀ j, j < w - 1 → ctb s (p + j + 1) = true) ∧ least ≤ accR x0 s p (w - 1) ∧ okc (accR x0 s p (w - 1)).toNat = true then ((accR x0 s p (w - 1)).toNat, w) else (65533, 1)) →
      VCode Try.prog 92 (cSnd (cSnd (cSnd (cSnd (Try.f154.body.getD .skip))))) (fr [(0, .str s), (1, .int .i64 p), (7, .int .i64 x0), (8, .int .i64 w), (9, .int .i64 least)]) []
        (pureK Try.prog 92 Try.f154.results.toList (.tup [.int .i64 (dec s p).1, .int .i64 (dec s p).2, .bool (decide (dec s p ≠ (65533, 1)))])) := by
    intro w least x0 h2 h4 hx0 hx1 hdec
    have hsub : IntKind.wrap .i64 ((s.length : Int) - p) = s.length - p := IntWalk.i64_in _ (by omega)
    repeat first | refine opsStep ?_ | refine codeStep ?_ | refine drawStep ?_
    refine decB_split (fun h => ?_) (fun h => ?_)
    · repeat first | refine opsStep ?_ | refine codeStep ?_ | refine drawStep ?_
      have hd : dec s p = (65533, 1) := by
        rw [hdec, if_neg]
        rintro ⟨hc, _⟩
        have := hc (w - 2) (by omega)
        simp [ctb] at this
        simp [hsub] at h
        omega
      exact finV (v' := .tup [.int .i64 65533, .int .i64 1, .bool false]) (by kernel_rfl) (by rw [hd]; simp)
    · repeat first | refine opsStep ?_ | refine codeStep ?_ | refine drawStep ?_
      have hlen : p + w ≤ s.length := by simp [hsub] at h; omega
      refine loopE_of (ι := {i : Nat // 1 ≤ i ∧ i ≤ w ∧ (∀ j, j < i - 1 → ctb s (p + j + 1) = true) ∧ 0 ≤ accR x0 s p (i - 1) ∧ accR x0 s p (i - 1) < 64 ^ i})
        (fun i => (fr [(0, .str s), (1, .int .i64 p), (7, .int .i64 (accR x0 s p (i.1 - 1))), (8, .int .i64 w), (9, .int .i64 least), (10, .int .i64 i.1)], [])) (fun i => w - i.1)
        ⟨1, by omega, by omega, by intro j hj; omega, by simpa [accR] using hx0, by simpa [accR] using hx1⟩ (Ent.fr' ⟨(by kernel_rfl), (by kernel_rfl), (by kernel_rfl), (by kernel_rfl), (by kernel_rfl), (by kernel_rfl), trivial⟩ (by kernel_rfl)) ?_
      rintro ⟨i, hi1, hi2, hct, hlo, hhi⟩
      repeat first | refine opsStep ?_ | refine codeStep ?_ | refine drawStep ?_
      refine decB_split (fun h => ?_) (fun h => ?_)
      · have hiw : i < w := by simp at h; omega
        have hwp : IntKind.wrap .i64 ((p : Int) + i) = p + i := IntWalk.i64_in _ (by omega)
        have hpi : p + i < s.length := by omega
        have hb1 := bt_lt s (p + i)
        have hw1 : IntKind.wrap .i64 (bt s (p + i)) = (bt s (p + i) : Int) := IntWalk.i64_in _ (by omega)
        have hbad : (bt s (p + i) < 128 ∨ 191 < bt s (p + i)) → dec s p = (65533, 1) := by
          intro hb
          rw [hdec, if_neg]
          rintro ⟨hc, _⟩
          have := hc (i - 1) (by omega)
          rw [show p + (i - 1) + 1 = p + i by omega] at this
          simp [ctb] at this
          omega
        repeat first | refine opsStep ?_ | refine codeStep ?_ | refine drawStep ?_
        refine guardE_of (by rw [hwp]; omega) ?_
        repeat first | refine opsStep ?_ | refine codeStep ?_ | refine drawStep ?_
        refine optE_of (c := s[p + i]) (by rw [hwp]; simp [← Int.natCast_add, hpi]) ?_
        rw [bt_at hpi]
        repeat first | refine opsStep ?_ | refine codeStep ?_ | refine drawStep ?_
        refine decB_split (fun h => ?_) (fun h => ?_)
        · repeat first | refine opsStep ?_ | refine codeStep ?_ | refine drawStep ?_
          exact finV (v' := .tup [.int .i64 65533, .int .i64 1, .bool false]) (by kernel_rfl) (by rw [hbad (by simp [hw1] at h; omega)]; simp)
        · repeat first | refine opsStep ?_ | refine codeStep ?_ | refine drawStep ?_
          refine decB_split (fun h => ?_) (fun h => ?_)
          · repeat first | refine opsStep ?_ | refine codeStep ?_ | refine drawStep ?_
            exact finV (v' := .tup [.int .i64 65533, .int .i64 1, .bool false]) (by kernel_rfl) (by rw [hbad (by simp [hw1] at h; omega)]; simp)
          · repeat first | refine opsStep ?_ | refine codeStep ?_ | refine drawStep ?_
            rename_i h0
            simp [hw1] at h h0
            have hpow : 64 ^ i ≤ 64 ^ 3 := Nat.pow_le_pow_right (by omega) (by omega)
            have hacc : accR x0 s p (i + 1 - 1) = accR x0 s p (i - 1) * 64 + bt s (p + i) - 128 := by
              obtain ⟨i, rfl⟩ : ∃ k, i = k + 1 := ⟨i - 1, by omega⟩
              rfl
            have hhi' : accR x0 s p (i - 1) < ((64 ^ i : Nat) : Int) := by simpa using hhi
            have h1 : IntKind.wrap .i64 (accR x0 s p (i - 1) * 64) = accR x0 s p (i - 1) * 64 := IntWalk.i64_in _ (by omega)
            have h2 : IntKind.wrap .i64 (accR x0 s p (i - 1) * 64 + bt s (p + i)) = accR x0 s p (i - 1) * 64 + bt s (p + i) := IntWalk.i64_in _ (by omega)
            have h3 : IntKind.wrap .i64 (accR x0 s p (i - 1) * 64 + bt s (p + i) - 128) = accR x0 s p (i - 1) * 64 + bt s (p + i) - 128 := IntWalk.i64_in _ (by omega)
            refine ⟨⟨i + 1, by omega, by omega, ?_, by rw [hacc]; omega, ?_⟩, (by show w - (i + 1) < w - i; omega), Ent.fr' ⟨(by kernel_rfl), (by kernel_rfl), ?_, (by kernel_rfl), (by kernel_rfl), inc_slot (i := i) (by omega), trivial⟩ (by kernel_rfl)⟩
            · intro j hj
              by_cases e : j < i - 1
              · exact hct j e
              · rw [show p + j + 1 = p + i by omega]
                simp [ctb]
                omega
            · rw [hacc]
              have : ((64 ^ (i + 1) : Nat) : Int) = 64 * ((64 ^ i : Nat) : Int) := by rw [Nat.pow_succ]; push_cast; omega
              have e : ((64 : Int) ^ (i + 1)) = ((64 ^ (i + 1) : Nat) : Int) := by push_cast; rfl
              rw [e]; omega
            · show AV.int .i64 (IntKind.wrap .i64 (IntKind.wrap .i64 (IntKind.wrap .i64 (accR x0 s p (i - 1) * 64) + IntKind.wrap .i64 (bt s (p + i))) - 128)) = _
              rw [h1, hw1, h2, h3, hacc]
      · have hiw : i = w := by simp at h; omega
        subst hiw
        have hdec' : dec s p = if least ≤ accR x0 s p (i - 1) ∧ accR x0 s p (i - 1) ≤ 1114111 ∧ ¬(55296 ≤ accR x0 s p (i - 1) ∧ accR x0 s p (i - 1) ≤ 57343) then ((accR x0 s p (i - 1)).toNat, i) else (65533, 1) := by
          rw [hdec]
          have e : ∀ (q r : Prop) [Decidable q] [Decidable r] (x y : Nat × Nat), (q ↔ r) → (if q then x else y) = (if r then x else y) := fun q r _ _ x y h => by
            by_cases hq : q
            · rw [if_pos hq, if_pos (h.1 hq)]
            · rw [if_neg hq, if_neg (fun k => hq (h.2 k))]
          apply e
          simp only [okc, Utf8.valid, Bool.or_eq_true, Bool.and_eq_true, decide_eq_true_eq]
          constructor
          · rintro ⟨_, h1, h2⟩; omega
          · rintro ⟨h1, h2, h3⟩; exact ⟨hct, h1, by omega⟩
        have hA : ∃ A, accR x0 s p (i - 1) = A := ⟨_, rfl⟩
        repeat' first | refine opsStep ?_ | refine codeStep ?_ | refine decB_split (fun h => ?_) (fun h => ?_)
        all_goals first
          | exact finV (v' := .tup [.int .i64 65533, .int .i64 1, .bool false]) (by kernel_rfl) (by rw [hdec', if_neg (by simp at *; omega)]; simp)
          | exact finV (v' := .tup [.int .i64 (accR x0 s p (i - 1)), .int .i64 i, .bool true]) (by kernel_rfl) (by rw [hdec', if_pos (by simp at *; omega)]; simp; omega)
  refine decB_split (fun h => ?_) (fun h => ?_)
  · repeat first | refine opsStep ?_ | refine codeStep ?_ | refine drawStep ?_
    exact finV (v' := .tup [.int .i64 (IntKind.wrap .i64 (bt s p)), .int .i64 1, .bool true]) (by kernel_rfl) (by simp [hw] at h; rw [dec_def, if_pos (by omega)]; simp [hw]; omega)
  · have hn : 128 ≤ bt s p := by simp [hw] at h; omega
    have cw : ∀ k : Nat, k ≤ 240 → IntKind.wrap .i64 ((bt s p : Int) - k) = bt s p - k := fun k hk => IntWalk.i64_in _ (by omega)
    have nb : ∀ {b : Bool}, b = false → b ≠ true := fun h => by simp [h]
    repeat first | refine opsStep ?_ | refine codeStep ?_ | refine drawStep ?_
    refine decB_dec (fun h1 => ?_) (fun h1 => ?_)
    · rw [hw] at h1
      repeat first | refine opsStep ?_ | refine codeStep ?_ | refine drawStep ?_
      refine decB_dec (fun h2 => ?_) (fun h2 => ?_)
      · rw [hw] at h2
        repeat first | refine VCode.ent ?_ (key 2 128 ((bt s p : Int) - 192) (by omega) (by omega) (by omega) (by omega) (dec2 (by omega) (by omega))) | refine opsStep ?_ | refine codeStep ?_
        exact Ent.fr' ⟨(by kernel_rfl), (by kernel_rfl), (congrArg (AV.int .i64) ((congrArg (fun z => IntKind.wrap .i64 (z - 192)) hw).trans (cw 192 (by omega))) : _), (by kernel_rfl), (by kernel_rfl), trivial⟩ (by kernel_rfl)
      · rw [hw] at h2
        repeat first | refine opsStep ?_ | refine codeStep ?_ | refine drawStep ?_
        refine decB_dec (fun h3 => ?_) (fun h3 => ?_)
        · rw [hw] at h3
          repeat first | refine opsStep ?_ | refine codeStep ?_ | refine drawStep ?_
          refine decB_dec (fun h4 => ?_) (fun h4 => ?_)
          · rw [hw] at h4
            repeat first | refine VCode.ent ?_ (key 3 2048 ((bt s p : Int) - 224) (by omega) (by omega) (by omega) (by omega) (dec3 (by omega) (by omega))) | refine opsStep ?_ | refine codeStep ?_
            exact Ent.fr' ⟨(by kernel_rfl), (by kernel_rfl), (congrArg (AV.int .i64) ((congrArg (fun z => IntKind.wrap .i64 (z - 224)) hw).trans (cw 224 (by omega))) : _), (by kernel_rfl), (by kernel_rfl), trivial⟩ (by kernel_rfl)
          · rw [hw] at h4
            repeat first | refine opsStep ?_ | refine codeStep ?_ | refine drawStep ?_
            refine decB_dec (fun h5 => ?_) (fun h5 => ?_)
            · rw [hw] at h5
              repeat first | refine opsStep ?_ | refine codeStep ?_ | refine drawStep ?_
              refine decB_dec (fun h6 => ?_) (fun h6 => ?_)
              · rw [hw] at h6
                repeat first | refine VCode.ent ?_ (key 4 65536 ((bt s p : Int) - 240) (by omega) (by omega) (by omega) (by omega) (dec4 (by omega) (by omega))) | refine opsStep ?_ | refine codeStep ?_
                exact Ent.fr' ⟨(by kernel_rfl), (by kernel_rfl), (congrArg (AV.int .i64) ((congrArg (fun z => IntKind.wrap .i64 (z - 240)) hw).trans (cw 240 (by omega))) : _), (by kernel_rfl), (by kernel_rfl), trivial⟩ (by kernel_rfl)
              · rw [hw] at h6
                repeat first | refine opsStep ?_ | refine codeStep ?_ | refine drawStep ?_
                exact finV (v' := .tup [.int .i64 65533, .int .i64 1, .bool false]) (by kernel_rfl) (by rw [decX (by omega)]; simp)
            · exact absurd (hw ▸ h5) (by omega)
        · exact absurd (hw ▸ h3) (by omega)
    · rw [hw] at h1
      repeat first | refine opsStep ?_ | refine codeStep ?_ | refine drawStep ?_
      refine decB_dec (fun h3 => ?_) (fun h3 => ?_)
      · exact absurd (hw ▸ h3) (by omega)
      · repeat first | refine opsStep ?_ | refine codeStep ?_ | refine drawStep ?_
        refine decB_dec (fun h5 => ?_) (fun h5 => ?_)
        · exact absurd (hw ▸ h5) (by omega)
        · repeat first | refine opsStep ?_ | refine codeStep ?_ | refine drawStep ?_
          exact finV (v' := .tup [.int .i64 65533, .int .i64 1, .bool false]) (by kernel_rfl) (by rw [decX (by omega)]; simp)

attribute [irreducible] okd
end Tab

/- Lists compared. -/
namespace Tab
open Go Go.Proofs
set_option maxRecDepth 10000
set_option linter.unusedVariables false
set_option linter.unusedSimpArgs false
set_option linter.unusedSectionVars false

theorem r12_texts (k k' : SK) (a b : List (List UInt8)) (ha : a.length < 2^62) (hb : b.length < 2^62) : Pure Try.prog 46 [aSs k a, aSs k' b] (.bool (decide (a = b))) := by
  refine Pure.of_sw 26 Try.func46 rfl Try.ntmps46 (by kernel_rfl) (Nat.le_of_ble_eq_true (by kernel_rfl)) (by simp [closeds, AV.closed, aSs_closed, aIs_closed, aBs_closed, aRs_closed, aDen_closed]) (by simp [AV.closed, closeds, aSs_closed, aIs_closed, aBs_closed, aRs_closed, aDen_closed]) ?_; refine SW.of_vc ?_
  repeat first | refine opsStep ?_ | refine codeStep ?_ | refine drawStep ?_
  refine decB_split (fun h => ?_) (fun h => ?_)
  · repeat first | refine opsStep ?_ | refine codeStep ?_ | refine drawStep ?_
    exact finB rfl (by simp at h; simp; intro e; exact h (by rw [e]))
  · repeat first | refine opsStep ?_ | refine codeStep ?_ | refine drawStep ?_
    have hl : a.length = b.length := by simp at h; omega
    refine loopE_of (ι := {i : Nat // i ≤ a.length ∧ a.take i = b.take i}) (fun i => (fr [(0, aSs k a), (1, aSs k' b), (5, .int .i64 i.1)], [])) (fun i => a.length - i.1) ⟨0, by omega, by simp⟩ (Ent.fr ⟨rfl, rfl, rfl, trivial⟩) ?_
    rintro ⟨i, hi, hpre⟩
    repeat first | refine opsStep ?_ | refine codeStep ?_ | refine drawStep ?_
    refine decB_split (fun h => ?_) (fun h => ?_)
    · have hia : i < a.length := by simpa using h
      repeat first | refine opsStep ?_ | refine codeStep ?_ | refine drawStep ?_
      refine SW.drawn rfl (by kernel_rfl) ?_
      repeat first | refine opsStep ?_ | refine codeStep ?_ | refine drawStep ?_
      refine guardE_of (by simp; omega) ?_
      repeat first | refine opsStep ?_ | refine codeStep ?_ | refine drawStep ?_
      refine optE_of (c := .str a[i]) (by simp [Value.cells, hia]) ?_
      repeat first | refine opsStep ?_ | refine codeStep ?_ | refine drawStep ?_
      refine guardE_of (by simp; omega) ?_
      repeat first | refine opsStep ?_ | refine codeStep ?_ | refine drawStep ?_
      refine optE_of (c := .str b[i]) (by simp [Value.cells, hl ▸ hia]) ?_
      repeat first | refine opsStep ?_ | refine codeStep ?_ | refine drawStep ?_
      refine ⟨by kernel_rfl, ?_⟩
      repeat first | refine opsStep ?_ | refine codeStep ?_ | refine drawStep ?_
      refine decB_split (fun h => ?_) (fun h => ?_)
      · repeat first | refine opsStep ?_ | refine codeStep ?_ | refine drawStep ?_
        exact finB rfl (by simp at h; simp; rintro rfl; exact h rfl)
      · repeat first | refine opsStep ?_ | refine codeStep ?_ | refine drawStep ?_
        refine ⟨⟨i + 1, by omega, ?_⟩, (by show a.length - (i + 1) < a.length - i; omega), Ent.fr' ⟨(by kernel_rfl), (by kernel_rfl), inc_slot (i := i) (by omega), trivial⟩ (by kernel_rfl)⟩
        rw [List.take_succ_eq_append_getElem hia, List.take_succ_eq_append_getElem (hl ▸ hia), hpre]
        simp at h; rw [h]
    · repeat first | refine opsStep ?_ | refine codeStep ?_ | refine drawStep ?_
      have : i = a.length := by simp at h; omega
      exact finB rfl (by subst this; rw [List.take_length, hl, List.take_length] at hpre; simpa using hpre)

theorem r12_ints (k k' : SK) (a b : List Int) (ha : a.length < 2^62) (hb : b.length < 2^62) : Pure Try.prog 48 [aIs k a, aIs k' b] (.bool (decide (a = b))) := by
  refine Pure.of_sw 26 Try.func48 rfl Try.ntmps48 (by kernel_rfl) (Nat.le_of_ble_eq_true (by kernel_rfl)) (by simp [closeds, AV.closed, aSs_closed, aIs_closed, aBs_closed, aRs_closed, aDen_closed]) (by simp [AV.closed, closeds, aSs_closed, aIs_closed, aBs_closed, aRs_closed, aDen_closed]) ?_; refine SW.of_vc ?_
  repeat first | refine opsStep ?_ | refine codeStep ?_ | refine drawStep ?_
  refine decB_split (fun h => ?_) (fun h => ?_)
  · repeat first | refine opsStep ?_ | refine codeStep ?_ | refine drawStep ?_
    exact finB rfl (by simp at h; simp; intro e; exact h (by rw [e]))
  · repeat first | refine opsStep ?_ | refine codeStep ?_ | refine drawStep ?_
    have hl : a.length = b.length := by simp at h; omega
    refine loopE_of (ι := {i : Nat // i ≤ a.length ∧ a.take i = b.take i}) (fun i => (fr [(0, aIs k a), (1, aIs k' b), (5, .int .i64 i.1)], [])) (fun i => a.length - i.1) ⟨0, by omega, by simp⟩ (Ent.fr ⟨rfl, rfl, rfl, trivial⟩) ?_
    rintro ⟨i, hi, hpre⟩
    repeat first | refine opsStep ?_ | refine codeStep ?_ | refine drawStep ?_
    refine decB_split (fun h => ?_) (fun h => ?_)
    · have hia : i < a.length := by simpa using h
      repeat first | refine opsStep ?_ | refine codeStep ?_ | refine drawStep ?_
      refine SW.drawn rfl (by kernel_rfl) ?_
      repeat first | refine opsStep ?_ | refine codeStep ?_ | refine drawStep ?_
      refine guardE_of (by simp; omega) ?_
      repeat first | refine opsStep ?_ | refine codeStep ?_ | refine drawStep ?_
      refine optE_of (c := .int .i64 a[i]) (by simp [Value.cells, hia]) ?_
      repeat first | refine opsStep ?_ | refine codeStep ?_ | refine drawStep ?_
      refine guardE_of (by simp; omega) ?_
      repeat first | refine opsStep ?_ | refine codeStep ?_ | refine drawStep ?_
      refine optE_of (c := .int .i64 b[i]) (by simp [Value.cells, hl ▸ hia]) ?_
      repeat first | refine opsStep ?_ | refine codeStep ?_ | refine drawStep ?_
      refine ⟨by kernel_rfl, ?_⟩
      repeat first | refine opsStep ?_ | refine codeStep ?_ | refine drawStep ?_
      refine decB_split (fun h => ?_) (fun h => ?_)
      · repeat first | refine opsStep ?_ | refine codeStep ?_ | refine drawStep ?_
        exact finB rfl (by simp at h; simp; rintro rfl; exact h rfl)
      · repeat first | refine opsStep ?_ | refine codeStep ?_ | refine drawStep ?_
        refine ⟨⟨i + 1, by omega, ?_⟩, (by show a.length - (i + 1) < a.length - i; omega), Ent.fr' ⟨(by kernel_rfl), (by kernel_rfl), inc_slot (i := i) (by omega), trivial⟩ (by kernel_rfl)⟩
        rw [List.take_succ_eq_append_getElem hia, List.take_succ_eq_append_getElem (hl ▸ hia), hpre]
        simp at h; rw [h]
    · repeat first | refine opsStep ?_ | refine codeStep ?_ | refine drawStep ?_
      have : i = a.length := by simp at h; omega
      exact finB rfl (by subst this; rw [List.take_length, hl, List.take_length] at hpre; simpa using hpre)

theorem r12_flags (k k' : SK) (a b : List Bool) (ha : a.length < 2^62) (hb : b.length < 2^62) : Pure Try.prog 47 [aBs k a, aBs k' b] (.bool (decide (a = b))) := by
  refine Pure.of_sw 26 Try.func47 rfl Try.ntmps47 (by kernel_rfl) (Nat.le_of_ble_eq_true (by kernel_rfl)) (by simp [closeds, AV.closed, aSs_closed, aIs_closed, aBs_closed, aRs_closed, aDen_closed]) (by simp [AV.closed, closeds, aSs_closed, aIs_closed, aBs_closed, aRs_closed, aDen_closed]) ?_; refine SW.of_vc ?_
  repeat first | refine opsStep ?_ | refine codeStep ?_ | refine drawStep ?_
  refine decB_split (fun h => ?_) (fun h => ?_)
  · repeat first | refine opsStep ?_ | refine codeStep ?_ | refine drawStep ?_
    exact finB rfl (by simp at h; simp; intro e; exact h (by rw [e]))
  · repeat first | refine opsStep ?_ | refine codeStep ?_ | refine drawStep ?_
    have hl : a.length = b.length := by simp at h; omega
    refine loopE_of (ι := {i : Nat // i ≤ a.length ∧ a.take i = b.take i}) (fun i => (fr [(0, aBs k a), (1, aBs k' b), (5, .int .i64 i.1)], [])) (fun i => a.length - i.1) ⟨0, by omega, by simp⟩ (Ent.fr ⟨rfl, rfl, rfl, trivial⟩) ?_
    rintro ⟨i, hi, hpre⟩
    repeat first | refine opsStep ?_ | refine codeStep ?_ | refine drawStep ?_
    refine decB_split (fun h => ?_) (fun h => ?_)
    · have hia : i < a.length := by simpa using h
      repeat first | refine opsStep ?_ | refine codeStep ?_ | refine drawStep ?_
      refine SW.drawn rfl (by kernel_rfl) ?_
      repeat first | refine opsStep ?_ | refine codeStep ?_ | refine drawStep ?_
      refine guardE_of (by simp; omega) ?_
      repeat first | refine opsStep ?_ | refine codeStep ?_ | refine drawStep ?_
      refine optE_of (c := .bool a[i]) (by simp [Value.cells, hia]) ?_
      repeat first | refine opsStep ?_ | refine codeStep ?_ | refine drawStep ?_
      refine guardE_of (by simp; omega) ?_
      repeat first | refine opsStep ?_ | refine codeStep ?_ | refine drawStep ?_
      refine optE_of (c := .bool b[i]) (by simp [Value.cells, hl ▸ hia]) ?_
      repeat first | refine opsStep ?_ | refine codeStep ?_ | refine drawStep ?_
      refine ⟨by kernel_rfl, ?_⟩
      repeat first | refine opsStep ?_ | refine codeStep ?_ | refine drawStep ?_
      refine decB_split (fun h => ?_) (fun h => ?_)
      · repeat first | refine opsStep ?_ | refine codeStep ?_ | refine drawStep ?_
        exact finB rfl (by simp at h; simp; intro e; subst e; exact h rfl)
      · repeat first | refine opsStep ?_ | refine codeStep ?_ | refine drawStep ?_
        refine ⟨⟨i + 1, by omega, ?_⟩, (by show a.length - (i + 1) < a.length - i; omega), Ent.fr' ⟨(by kernel_rfl), (by kernel_rfl), inc_slot (i := i) (by omega), trivial⟩ (by kernel_rfl)⟩
        rw [List.take_succ_eq_append_getElem hia, List.take_succ_eq_append_getElem (hl ▸ hia), hpre]
        simp at h; rw [h]
    · repeat first | refine opsStep ?_ | refine codeStep ?_ | refine drawStep ?_
      have : i = a.length := by simp at h; omega
      exact finB rfl (by subst this; rw [List.take_length, hl, List.take_length] at hpre; simpa using hpre)
end Tab

/- Names, lists of names. -/
namespace Tab
open Go Go.Proofs
set_option maxRecDepth 10000
set_option linter.unusedVariables false
set_option linter.unusedSimpArgs false
set_option linter.unusedSectionVars false

def nmFrom (s : List UInt8) : Nat → Nat → Nat → Option Nat
  | 0, _, n => some n
  | f + 1, p, n => if p < s.length then (if ((decide (p = 0) && !startR (dec s p).1) || !restR (dec s p).1) = true then none else nmFrom s f (p + (dec s p).2) (n + 1)) else some n

def nameS (s : List UInt8) : Bool := match nmFrom s (s.length + 1) 0 0 with
  | none => false
  | some n => decide (0 < n) && decide (n ≤ 16) && !resS s

theorem dec_width (s : List UInt8) (p : Nat) : 1 ≤ (dec s p).2 ∧ (dec s p).2 ≤ 4 := by
  rw [dec_def]
  simp only []
  repeat' split
  all_goals simp

def NmInv (s : List UInt8) (x : Nat × Nat × Nat) : Prop :=
  nmFrom s (s.length + 1) 0 0 = nmFrom s x.2.2 x.1 x.2.1 ∧ s.length < x.1 + x.2.2 ∧ x.2.1 ≤ x.1 ∧ x.1 ≤ s.length + 3 ∧ (x.2.1 = 0 ↔ x.1 = 0)

theorem NmInv.step {s : List UInt8} {p n f : Nat} (h : NmInv s (p, n, f)) (hp : p < s.length) (hg : ((decide (p = 0) && !startR (dec s p).1) || !restR (dec s p).1) = false) : NmInv s (p + (dec s p).2, n + 1, f - 1) := by
  obtain ⟨h1, h2, h3, h4, h5⟩ := h
  have hw := dec_width s p
  simp only at h1 h2 h3 h4 h5
  refine ⟨?_, by simp only; omega, by simp only; omega, by simp only; omega, by simp only; omega⟩
  obtain ⟨f, rfl⟩ : ∃ k, f = k + 1 := ⟨f - 1, by omega⟩
  rw [h1, nmFrom, if_pos hp, if_neg (by rw [hg]; simp)]
  rfl
theorem NmInv.bad {s : List UInt8} {p n f : Nat} (h : NmInv s (p, n, f)) (hp : p < s.length) (hg : ((decide (p = 0) && !startR (dec s p).1) || !restR (dec s p).1) = true) : nameS s = false := by
  obtain ⟨h1, h2, h3, h4, h5⟩ := h
  simp only at h1 h2 h3 h4 h5
  obtain ⟨f, rfl⟩ : ∃ k, f = k + 1 := ⟨f - 1, by omega⟩
  have e : nmFrom s (f + 1) p n = none := by rw [nmFrom, if_pos hp, if_pos hg]
  rw [e] at h1
  simp [nameS, h1]
theorem NmInv.done {s : List UInt8} {p n f : Nat} (h : NmInv s (p, n, f)) (hp : ¬ p < s.length) : nameS s = (decide (0 < n) && decide (n ≤ 16) && !resS s) := by
  obtain ⟨h1, h2, h3, h4, h5⟩ := h
  simp only at h1 h2 h3 h4 h5
  have : nmFrom s f p n = some n := by
    cases f with
    | zero => rfl
    | succ f => rw [nmFrom, if_neg hp]
  rw [this] at h1
  simp [nameS, h1]

theorem glyph_Name (s : List UInt8) (hl : s.length < 2^62) : Pure Try.prog 100 [.str s] (.bool (nameS s)) := by
  refine Pure.of_sw 37 Try.func100 rfl Try.ntmps100 (by kernel_rfl) (Nat.le_of_ble_eq_true (by kernel_rfl)) (by simp [closeds, AV.closed, aSs_closed, aIs_closed, aBs_closed, aRs_closed, aDen_closed]) (by simp [AV.closed, closeds, aSs_closed, aIs_closed, aBs_closed, aRs_closed, aDen_closed]) ?_; refine SW.of_vc ?_
  repeat first | refine opsStep ?_ | refine codeStep ?_ | refine drawStep ?_
  refine loopE_of (ι := {x : Nat × Nat × Nat // NmInv s x}) (fun x => (fr [(0, .str s), (3, .int .i64 x.1.2.1), (7, .ref 0 0 0)], [.siter s x.1.1])) (fun x => s.length + 4 - x.1.1)
    ⟨(0, 0, s.length + 1), rfl, by simp, by simp, by simp, by simp⟩ (Ent.fr' ⟨(by kernel_rfl), (by kernel_rfl), (by kernel_rfl), trivial⟩ (by kernel_rfl)) ?_
  rintro ⟨⟨p, n, f⟩, hinv⟩
  have hw := dec_width s p
  have hinv' := hinv
  obtain ⟨-, -, hnp, hps, hn0⟩ := hinv'
  simp only at hnp hps hn0
  repeat first | refine opsStep ?_ | refine codeStep ?_ | refine drawStep ?_
  refine decB_dec (fun hp => ?_) (fun hp => ?_)
  · repeat first | refine opsStep ?_ | refine codeStep ?_ | refine drawStep ?_
    refine decB_split (fun h => ?_) (fun h => ?_)
    · repeat first | refine opsStep ?_ | refine codeStep ?_ | refine drawStep ?_
      refine callP (glyph_Start _) ?_
      repeat first | refine opsStep ?_ | refine codeStep ?_ | refine drawStep ?_
      refine decB_split (fun h => ?_) (fun h => ?_)
      · repeat first | refine opsStep ?_ | refine codeStep ?_ | refine drawStep ?_
        exact finB rfl (by rw [hinv.bad hp (by simp_all)])
      · repeat first | refine opsStep ?_ | refine codeStep ?_ | refine drawStep ?_
        refine callP (glyph_Rest _) ?_
        repeat first | refine opsStep ?_ | refine codeStep ?_ | refine drawStep ?_
        refine decB_split (fun h => ?_) (fun h => ?_)
        · repeat first | refine opsStep ?_ | refine codeStep ?_ | refine drawStep ?_
          exact finB rfl (by rw [hinv.bad hp (by simp_all)])
        · repeat first | refine opsStep ?_ | refine codeStep ?_ | refine drawStep ?_
          refine ⟨⟨(p + (dec s p).2, n + 1, f - 1), hinv.step hp (by simp_all)⟩, (by show s.length + 4 - (p + (dec s p).2) < s.length + 4 - p; have : p < s.length := hp; omega), Ent.fr' ⟨(by kernel_rfl), inc_slot (i := n) (by omega), (by kernel_rfl), trivial⟩ (by kernel_rfl)⟩
    · repeat first | refine opsStep ?_ | refine codeStep ?_ | refine drawStep ?_
      refine callP (glyph_Rest _) ?_
      repeat first | refine opsStep ?_ | refine codeStep ?_ | refine drawStep ?_
      refine decB_split (fun h => ?_) (fun h => ?_)
      · repeat first | refine opsStep ?_ | refine codeStep ?_ | refine drawStep ?_
        exact finB rfl (by rw [hinv.bad hp (by simp_all)])
      · repeat first | refine opsStep ?_ | refine codeStep ?_ | refine drawStep ?_
        refine ⟨⟨(p + (dec s p).2, n + 1, f - 1), hinv.step hp (by simp_all)⟩, (by show s.length + 4 - (p + (dec s p).2) < s.length + 4 - p; have : p < s.length := hp; omega), Ent.fr' ⟨(by kernel_rfl), inc_slot (i := n) (by omega), (by kernel_rfl), trivial⟩ (by kernel_rfl)⟩
  · repeat first | refine opsStep ?_ | refine codeStep ?_ | refine drawStep ?_
    refine decB_dec (fun h1 => ?_) (fun h1 => ?_)
    · repeat first | refine opsStep ?_ | refine codeStep ?_ | refine drawStep ?_
      refine decB_dec (fun h2 => ?_) (fun h2 => ?_)
      · repeat first | refine opsStep ?_ | refine codeStep ?_ | refine drawStep ?_
        refine callP (glyph_Reserved _) ?_
        repeat first | refine opsStep ?_ | refine codeStep ?_ | refine drawStep ?_
        exact finB rfl (by rw [hinv.done hp, decide_eq_true (show 0 < n by simp at h1; omega), decide_eq_true (show n ≤ 16 by simp at h2; omega)]; simp)
      · repeat first | refine opsStep ?_ | refine codeStep ?_ | refine drawStep ?_
        exact finB rfl (by rw [hinv.done hp, decide_eq_true (show 0 < n by simp at h1; omega), decide_eq_false (show ¬ n ≤ 16 by simp at h2; omega)]; simp)
    · repeat first | refine opsStep ?_ | refine codeStep ?_ | refine drawStep ?_
      exact finB rfl (by rw [hinv.done hp, decide_eq_false (show ¬ 0 < n by simp at h1; omega)]; simp)

theorem r04_Name (s : List UInt8) (hl : s.length < 2^62) : Pure Try.prog 120 [.str s] (.bool (nameS s)) := by
  refine Pure.of_sw 51 Try.func120 rfl Try.ntmps120 (by kernel_rfl) (Nat.le_of_ble_eq_true (by kernel_rfl)) (by simp [closeds, AV.closed, aSs_closed, aIs_closed, aBs_closed, aRs_closed, aDen_closed]) (by simp [AV.closed, closeds, aSs_closed, aIs_closed, aBs_closed, aRs_closed, aDen_closed]) ?_; refine SW.of_vc ?_
  repeat first | refine opsStep ?_ | refine codeStep ?_ | refine drawStep ?_
  refine loopE_of (ι := {x : Nat × Nat × Nat // NmInv s x}) (fun x => (fr [(0, .str s), (3, .int .i64 x.1.2.1), (4, .int .i64 x.1.1)], [])) (fun x => s.length + 4 - x.1.1)
    ⟨(0, 0, s.length + 1), rfl, by simp, by simp, by simp, by simp⟩ (Ent.fr' ⟨(by kernel_rfl), (by kernel_rfl), (by kernel_rfl), trivial⟩ (by kernel_rfl)) ?_
  rintro ⟨⟨p, n, f⟩, hinv⟩
  have hw := dec_width s p
  have hinv' := hinv
  obtain ⟨-, -, hnp, hps, hn0⟩ := hinv'
  simp only at hnp hps hn0
  repeat first | refine opsStep ?_ | refine codeStep ?_ | refine drawStep ?_
  refine decB_dec (fun hp0 => ?_) (fun hp0 => ?_)
  · have hp : p < s.length := by simpa using hp0
    repeat first | refine opsStep ?_ | refine codeStep ?_ | refine drawStep ?_
    refine callP (r04_Read s p hp hl) ?_
    have hbad : okd s p = false → nameS s = false := fun e => hinv.bad hp (by
      have e : dec s p = (65533, 1) := by rw [okd_eq] at e; simpa using e
      rw [e]; have : restR 65533 = false := by unfold restR startR; simp
      simp only [show ((65533, 1) : Nat × Nat).1 = 65533 from rfl]; rw [show ((65533 : Nat) : Int) = 65533 from rfl, this]; simp)
    repeat first | refine opsStep ?_ | refine codeStep ?_ | refine drawStep ?_
    refine decB_split (fun h => ?_) (fun h => ?_)
    · repeat first | refine opsStep ?_ | refine codeStep ?_ | refine drawStep ?_
      exact finB rfl (by rw [hbad (by simp_all)])
    · repeat first | refine opsStep ?_ | refine codeStep ?_ | refine drawStep ?_
      refine decB_split (fun h => ?_) (fun h => ?_)
      · repeat first | refine opsStep ?_ | refine codeStep ?_ | refine drawStep ?_
        refine callP (r04_Start _) ?_
        repeat first | refine opsStep ?_ | refine codeStep ?_ | refine drawStep ?_
        refine decB_split (fun h => ?_) (fun h => ?_)
        · repeat first | refine opsStep ?_ | refine codeStep ?_ | refine drawStep ?_
          exact finB rfl (by rw [hinv.bad hp (by simp_all)])
        · repeat first | refine opsStep ?_ | refine codeStep ?_ | refine drawStep ?_
          refine callP (r04_Rest _) ?_
          repeat first | refine opsStep ?_ | refine codeStep ?_ | refine drawStep ?_
          refine decB_split (fun h => ?_) (fun h => ?_)
          · repeat first | refine opsStep ?_ | refine codeStep ?_ | refine drawStep ?_
            exact finB rfl (by rw [hinv.bad hp (by simp_all)])
          · repeat first | refine opsStep ?_ | refine codeStep ?_ | refine drawStep ?_
            refine ⟨⟨(p + (dec s p).2, n + 1, f - 1), hinv.step hp (by simp_all)⟩, (by show s.length + 4 - (p + (dec s p).2) < s.length + 4 - p; omega), Ent.fr' ⟨(by kernel_rfl), inc_slot (i := n) (by omega), (congrArg (AV.int .i64) ((IntWalk.i64_in ((p : Int) + (dec s p).2) (by omega)).trans (Int.natCast_add _ _).symm) : _), trivial⟩ (by kernel_rfl)⟩
      · repeat first | refine opsStep ?_ | refine codeStep ?_ | refine drawStep ?_
        refine callP (r04_Rest _) ?_
        repeat first | refine opsStep ?_ | refine codeStep ?_ | refine drawStep ?_
        refine decB_split (fun h => ?_) (fun h => ?_)
        · repeat first | refine opsStep ?_ | refine codeStep ?_ | refine drawStep ?_
          exact finB rfl (by rw [hinv.bad hp (by simp_all)])
        · repeat first | refine opsStep ?_ | refine codeStep ?_ | refine drawStep ?_
          refine ⟨⟨(p + (dec s p).2, n + 1, f - 1), hinv.step hp (by simp_all)⟩, (by show s.length + 4 - (p + (dec s p).2) < s.length + 4 - p; omega), Ent.fr' ⟨(by kernel_rfl), inc_slot (i := n) (by omega), (congrArg (AV.int .i64) ((IntWalk.i64_in ((p : Int) + (dec s p).2) (by omega)).trans (Int.natCast_add _ _).symm) : _), trivial⟩ (by kernel_rfl)⟩
  · have hp : ¬ p < s.length := by simpa using hp0
    repeat first | refine opsStep ?_ | refine codeStep ?_ | refine drawStep ?_
    refine decB_dec (fun h1 => ?_) (fun h1 => ?_)
    · repeat first | refine opsStep ?_ | refine codeStep ?_ | refine drawStep ?_
      refine decB_dec (fun h2 => ?_) (fun h2 => ?_)
      · repeat first | refine opsStep ?_ | refine codeStep ?_ | refine drawStep ?_
        refine callP (r04_Reserved _) ?_
        repeat first | refine opsStep ?_ | refine codeStep ?_ | refine drawStep ?_
        exact finB rfl (by rw [hinv.done hp, decide_eq_true (show 0 < n by simp at h1; omega), decide_eq_true (show n ≤ 16 by simp at h2; omega)]; simp)
      · repeat first | refine opsStep ?_ | refine codeStep ?_ | refine drawStep ?_
        exact finB rfl (by rw [hinv.done hp, decide_eq_true (show 0 < n by simp at h1; omega), decide_eq_false (show ¬ n ≤ 16 by simp at h2; omega)]; simp)
    · repeat first | refine opsStep ?_ | refine codeStep ?_ | refine drawStep ?_
      exact finB rfl (by rw [hinv.done hp, decide_eq_false (show ¬ 0 < n by simp at h1; omega)]; simp)
attribute [irreducible] nameS
end Tab

/- Lists of names: places in them, rising ones. -/
namespace Tab
open Go Go.Proofs
set_option maxRecDepth 10000
set_option linter.unusedVariables false
set_option linter.unusedSimpArgs false
set_option linter.unusedSectionVars false

def idxS (l : List (List UInt8)) (s : List UInt8) : Int := if l.idxOf s < l.length then (l.idxOf s : Int) else -1

theorem idx_hit {l : List (List UInt8)} {s : List UInt8} {i : Nat} (hi : i < l.length) (hn : s ∉ l.take i) (h : l[i] = s) : idxS l s = i := by
  have e : l = l.take i ++ l[i] :: l.drop (i + 1) := by simp
  have : l.idxOf s = i := by
    rw [e, List.idxOf_append, if_neg hn, h, List.idxOf_cons_self]
    simp; omega
  rw [idxS, this, if_pos hi]
theorem idx_miss {l : List (List UInt8)} {s : List UInt8} (h : s ∉ l) : idxS l s = -1 := by
  rw [idxS, List.idxOf_eq_length h, if_neg (by omega)]

theorem slices_Index_S (k : SK) (l : List (List UInt8)) (s : List UInt8) (hl : l.length < 2^62) : Pure Try.prog 140 [aSs k l, .str s] (.int .i64 (idxS l s)) := by
  refine Pure.of_sw 19 Try.func140 rfl Try.ntmps140 (by kernel_rfl) (Nat.le_of_ble_eq_true (by kernel_rfl)) (by simp [closeds, AV.closed, aSs_closed, aIs_closed, aBs_closed, aRs_closed, aDen_closed]) (by simp [AV.closed, closeds, aSs_closed, aIs_closed, aBs_closed, aRs_closed, aDen_closed]) ?_; refine SW.of_vc ?_
  repeat first | refine opsStep ?_ | refine codeStep ?_ | refine drawStep ?_
  refine loopE_of (ι := {i : Nat // i ≤ l.length ∧ s ∉ l.take i}) (fun i => (fr [(0, aSs k l), (1, .str s), (7, .int .i64 l.length), (8, .int .i64 i.1)], [])) (fun i => l.length - i.1) ⟨0, by omega, by simp⟩ (Ent.fr' ⟨(by kernel_rfl), (by kernel_rfl), (by kernel_rfl), (by kernel_rfl), trivial⟩ (by kernel_rfl)) ?_
  rintro ⟨i, hi, hpre⟩
  repeat first | refine opsStep ?_ | refine codeStep ?_ | refine drawStep ?_
  refine decB_dec (fun h => ?_) (fun h => ?_)
  · have hia : i < l.length := by simpa using h
    repeat first | refine opsStep ?_ | refine codeStep ?_ | refine drawStep ?_
    refine guardE_of (by simp; omega) ?_
    repeat first | refine opsStep ?_ | refine codeStep ?_ | refine drawStep ?_
    refine optE_of (c := .str l[i]) (by simp [Value.cells, hia]) ?_
    repeat first | refine opsStep ?_ | refine codeStep ?_ | refine drawStep ?_
    refine decB_dec (fun h => ?_) (fun h => ?_)
    · repeat first | refine opsStep ?_ | refine codeStep ?_ | refine drawStep ?_
      exact finV (v' := .int .i64 i) (by kernel_rfl) (by rw [idx_hit hia hpre h.symm])
    · repeat first | refine opsStep ?_ | refine codeStep ?_ | refine drawStep ?_
      refine ⟨⟨i + 1, by omega, ?_⟩, (by show l.length - (i + 1) < l.length - i; omega), Ent.fr' ⟨(by kernel_rfl), (by kernel_rfl), (by kernel_rfl), inc_slot (i := i) (by omega), trivial⟩ (by kernel_rfl)⟩
      rw [List.take_succ_eq_append_getElem hia]
      exact fun e => (List.mem_append.1 e).elim hpre (fun e => h (List.mem_singleton.1 e))
  · repeat first | refine opsStep ?_ | refine codeStep ?_ | refine drawStep ?_
    have : i = l.length := by simp at h; omega
    exact finV (v' := .int .i64 (-1)) (by kernel_rfl) (by subst this; rw [List.take_length] at hpre; rw [idx_miss hpre])

theorem glyph_Index (k : SK) (l : List (List UInt8)) (s : List UInt8) (hl : l.length < 2^62) : Pure Try.prog 104 [aSs k l, .str s] (.int .i64 (idxS l s)) := by
  refine Pure.of_sw 8 Try.func104 rfl Try.ntmps104 (by kernel_rfl) (Nat.le_of_ble_eq_true (by kernel_rfl)) (by simp [closeds, AV.closed, aSs_closed, aIs_closed, aBs_closed, aRs_closed, aDen_closed]) (by simp [AV.closed, closeds, aSs_closed, aIs_closed, aBs_closed, aRs_closed, aDen_closed]) ?_; refine SW.of_vc ?_
  repeat first | refine opsStep ?_ | refine codeStep ?_ | refine drawStep ?_
  refine callP (slices_Index_S k l s hl) ?_
  repeat first | refine opsStep ?_ | refine codeStep ?_ | refine drawStep ?_
  exact finE_of (by kernel_rfl)

def badAt (l : List (List UInt8)) (i : Nat) : Bool := !nameS (l.getD i []) || (decide (0 < i) && !(Op.bytesLess (l.getD (i - 1) []) (l.getD i [])))
def risesS (l : List (List UInt8)) : Bool := (List.range l.length).all fun i => !badAt l i

theorem rises_bad {l : List (List UInt8)} {i : Nat} (hi : i < l.length) (h : badAt l i = true) : risesS l = false := by
  rw [risesS, ← Bool.not_eq_true, List.all_eq_true]
  intro k
  have := k i (by simp [hi])
  simp [h] at this
theorem rises_ok {l : List (List UInt8)} (h : ∀ j, j < l.length → badAt l j = false) : risesS l = true := by
  rw [risesS, List.all_eq_true]
  intro i hi
  simp [h i (by simpa using hi)]

theorem glyph_Rises (k : SK) (l : List (List UInt8)) (hl : l.length < 2^62) (hs : ∀ s ∈ l, s.length < 2^62) : Pure Try.prog 63 [aSs k l] (.bool (risesS l)) := by
  refine Pure.of_sw 29 Try.func63 rfl Try.ntmps63 (by kernel_rfl) (Nat.le_of_ble_eq_true (by kernel_rfl)) (by simp [closeds, AV.closed, aSs_closed, aIs_closed, aBs_closed, aRs_closed, aDen_closed]) (by simp [AV.closed, closeds, aSs_closed, aIs_closed, aBs_closed, aRs_closed, aDen_closed]) ?_; refine SW.of_vc ?_
  repeat first | refine opsStep ?_ | refine codeStep ?_ | refine drawStep ?_
  refine loopE_of (ι := {i : Nat // i ≤ l.length ∧ ∀ j, j < i → badAt l j = false}) (fun i => (fr [(0, aSs k l), (5, aSs k l), (6, .int .i64 l.length), (7, .int .i64 i.1)], [])) (fun i => l.length - i.1) ⟨0, by omega, by simp⟩ (Ent.fr' ⟨(by kernel_rfl), (by kernel_rfl), (by kernel_rfl), (by kernel_rfl), trivial⟩ (by kernel_rfl)) ?_
  rintro ⟨i, hi, hpre⟩
  repeat first | refine opsStep ?_ | refine codeStep ?_ | refine drawStep ?_
  refine decB_dec (fun h => ?_) (fun h => ?_)
  · have hia : i < l.length := by simpa using h
    have hg : l.getD i [] = l[i] := by simp [List.getD_eq_getElem?_getD, hia]
    have hnext : ∀ (hb : badAt l i = false) (j : Nat), j < i + 1 → badAt l j = false := fun hb j hj => by
      by_cases e : j = i
      · subst e; exact hb
      · exact hpre j (by omega)
    repeat first | refine opsStep ?_ | refine codeStep ?_ | refine drawStep ?_
    refine guardE_of (by simp; omega) ?_
    repeat first | refine opsStep ?_ | refine codeStep ?_ | refine drawStep ?_
    refine optE_of (c := .str l[i]) (by simp [Value.cells, hia]) ?_
    repeat first | refine opsStep ?_ | refine codeStep ?_ | refine drawStep ?_
    refine callP (glyph_Name l[i] (hs _ (List.getElem_mem hia))) ?_
    repeat first | refine opsStep ?_ | refine codeStep ?_ | refine drawStep ?_
    refine decB_split (fun h => ?_) (fun h => ?_)
    · repeat first | refine opsStep ?_ | refine codeStep ?_ | refine drawStep ?_
      exact finB rfl (by rw [rises_bad hia (by rw [badAt, hg]; simp at h; simp [h])])
    · repeat first | refine opsStep ?_ | refine codeStep ?_ | refine drawStep ?_
      rename_i h0
      have hn : nameS l[i] = true := by simpa using h
      refine decB_dec (fun h1 => ?_) (fun h1 => ?_)
      · have h1' : 0 < i := by simpa using h1
        have hw : IntKind.wrap .i64 ((i : Int) - 1) = ((i - 1 : Nat) : Int) := by rw [IntWalk.i64_in _ (by omega)]; omega
        have hg1 : l.getD (i - 1) [] = l[i - 1] := by simp [List.getD_eq_getElem?_getD, show i - 1 < l.length by omega]
        repeat first | refine opsStep ?_ | refine codeStep ?_ | refine drawStep ?_
        refine guardE_of (by rw [hw]; omega) ?_
        repeat first | refine opsStep ?_ | refine codeStep ?_ | refine drawStep ?_
        refine optE_of (c := .str l[i - 1]) (by rw [hw]; simp [Value.cells, show i - 1 < l.length by omega]) ?_
        repeat first | refine opsStep ?_ | refine codeStep ?_ | refine drawStep ?_
        refine decB_split (fun h => ?_) (fun h => ?_)
        · repeat first | refine opsStep ?_ | refine codeStep ?_ | refine drawStep ?_
          exact finB rfl (by rw [rises_bad hia (by rw [badAt, hg, hg1]; simp at h; simp [h, h1'])])
        · repeat first | refine opsStep ?_ | refine codeStep ?_ | refine drawStep ?_
          refine ⟨⟨i + 1, by omega, hnext (by rw [badAt, hg, hg1]; simp at h; simp [h, hn])⟩, (by show l.length - (i + 1) < l.length - i; omega), Ent.fr' ⟨(by kernel_rfl), (by kernel_rfl), (by kernel_rfl), inc_slot (i := i) (by omega), trivial⟩ (by kernel_rfl)⟩
      · repeat first | refine opsStep ?_ | refine codeStep ?_ | refine drawStep ?_
        have h1' : i = 0 := by simp at h1; omega
        refine ⟨⟨i + 1, by omega, hnext (by rw [badAt, hg, hn, decide_eq_false (show ¬ 0 < i by omega)]; simp)⟩, (by show l.length - (i + 1) < l.length - i; omega), Ent.fr' ⟨(by kernel_rfl), (by kernel_rfl), (by kernel_rfl), inc_slot (i := i) (by omega), trivial⟩ (by kernel_rfl)⟩
  · repeat first | refine opsStep ?_ | refine codeStep ?_ | refine drawStep ?_
    have : i = l.length := by simp at h; omega
    exact finB rfl (by subst this; rw [rises_ok hpre])

end Tab

/- Letters and their digits. -/
namespace Tab
open Go Go.Proofs
set_option maxRecDepth 10000
set_option linter.unusedVariables false
set_option linter.unusedSimpArgs false
set_option linter.unusedSectionVars false

theorem r04_Rises (k : SK) (l : List (List UInt8)) (hl : l.length < 2^62) (hs : ∀ s ∈ l, s.length < 2^62) : Pure Try.prog 92 [aSs k l] (.bool (risesS l)) := by
  refine Pure.of_sw 32 Try.func92 rfl Try.ntmps92 (by kernel_rfl) (Nat.le_of_ble_eq_true (by kernel_rfl)) (by simp [closeds, AV.closed, aSs_closed, aIs_closed, aBs_closed, aRs_closed, aDen_closed]) (by simp [AV.closed, closeds, aSs_closed, aIs_closed, aBs_closed, aRs_closed, aDen_closed]) ?_; refine SW.of_vc ?_
  repeat first | refine opsStep ?_ | refine codeStep ?_ | refine drawStep ?_
  refine loopE_of (ι := {i : Nat // i ≤ l.length ∧ ∀ j, j < i → badAt l j = false}) (fun i => (fr [(0, aSs k l), (3, .int .i64 i.1)], [])) (fun i => l.length - i.1) ⟨0, by omega, by simp⟩ (Ent.fr' ⟨(by kernel_rfl), (by kernel_rfl), trivial⟩ (by kernel_rfl)) ?_
  rintro ⟨i, hi, hpre⟩
  repeat first | refine opsStep ?_ | refine codeStep ?_ | refine drawStep ?_
  refine decB_dec (fun h => ?_) (fun h => ?_)
  · have hia : i < l.length := by simpa using h
    have hg : l.getD i [] = l[i] := by simp [List.getD_eq_getElem?_getD, hia]
    have hnext : ∀ (hb : badAt l i = false) (j : Nat), j < i + 1 → badAt l j = false := fun hb j hj => by
      by_cases e : j = i
      · subst e; exact hb
      · exact hpre j (by omega)
    repeat first | refine opsStep ?_ | refine codeStep ?_ | refine drawStep ?_
    refine SW.drawn rfl (by kernel_rfl) ?_
    repeat first | refine opsStep ?_ | refine codeStep ?_ | refine drawStep ?_
    refine guardE_of (by simp; omega) ?_
    repeat first | refine opsStep ?_ | refine codeStep ?_ | refine drawStep ?_
    refine optE_of (c := .str l[i]) (by simp [Value.cells, hia]) ?_
    repeat first | refine opsStep ?_ | refine codeStep ?_ | refine drawStep ?_
    refine .inl ⟨_, _, [], (r04_Name l[i] (hs _ (List.getElem_mem hia))), RdsN_refl _, .inr rfl, none_need, ?_⟩
    repeat first | refine opsStep ?_ | refine codeStep ?_ | refine drawStep ?_
    refine decB_split (fun h => ?_) (fun h => ?_)
    · repeat first | refine opsStep ?_ | refine codeStep ?_ | refine drawStep ?_
      refine ⟨by kernel_rfl, ?_⟩
      repeat first | refine opsStep ?_ | refine codeStep ?_ | refine drawStep ?_
      exact finB rfl (by rw [rises_bad hia (by rw [badAt, hg]; simp at h; simp [h])])
    · repeat first | refine opsStep ?_ | refine codeStep ?_ | refine drawStep ?_
      have hn : nameS l[i] = true := by simpa using h
      refine decB_dec (fun h1 => ?_) (fun h1 => ?_)
      · have h1' : 0 < i := by simpa using h1
        have hw : IntKind.wrap .i64 ((i : Int) - 1) = ((i - 1 : Nat) : Int) := by rw [IntWalk.i64_in _ (by omega)]; omega
        have hg1 : l.getD (i - 1) [] = l[i - 1] := by simp [List.getD_eq_getElem?_getD, show i - 1 < l.length by omega]
        repeat first | refine opsStep ?_ | refine codeStep ?_ | refine drawStep ?_
        refine guardE_of (by rw [hw]; omega) ?_
        repeat first | refine opsStep ?_ | refine codeStep ?_ | refine drawStep ?_
        refine optE_of (c := .str l[i - 1]) (by rw [hw]; simp [Value.cells, show i - 1 < l.length by omega]) ?_
        repeat first | refine opsStep ?_ | refine codeStep ?_ | refine drawStep ?_
        refine guardE_of (by simp; omega) ?_
        repeat first | refine opsStep ?_ | refine codeStep ?_ | refine drawStep ?_
        refine optE_of (c := .str l[i]) (by simp [Value.cells, hia]) ?_
        repeat first | refine opsStep ?_ | refine codeStep ?_ | refine drawStep ?_
        refine ⟨by kernel_rfl, ?_⟩
        repeat first | refine opsStep ?_ | refine codeStep ?_ | refine drawStep ?_
        refine decB_split (fun h => ?_) (fun h => ?_)
        · repeat first | refine opsStep ?_ | refine codeStep ?_ | refine drawStep ?_
          exact finB rfl (by rw [rises_bad hia (by rw [badAt, hg, hg1]; simp at h; simp [h, h1'])])
        · repeat first | refine opsStep ?_ | refine codeStep ?_ | refine drawStep ?_
          refine ⟨⟨i + 1, by omega, hnext (by rw [badAt, hg, hg1]; simp at h; simp [h, hn])⟩, (by show l.length - (i + 1) < l.length - i; omega), Ent.fr' ⟨(by kernel_rfl), inc_slot (i := i) (by omega), trivial⟩ (by kernel_rfl)⟩
      · repeat first | refine opsStep ?_ | refine codeStep ?_ | refine drawStep ?_
        refine ⟨by kernel_rfl, ?_⟩
        repeat first | refine opsStep ?_ | refine codeStep ?_ | refine drawStep ?_
        have h1' : i = 0 := by simp at h1; omega
        refine ⟨⟨i + 1, by omega, hnext (by rw [badAt, hg, hn, decide_eq_false (show ¬ 0 < i by omega)]; simp)⟩, (by show l.length - (i + 1) < l.length - i; omega), Ent.fr' ⟨(by kernel_rfl), inc_slot (i := i) (by omega), trivial⟩ (by kernel_rfl)⟩
  · repeat first | refine opsStep ?_ | refine codeStep ?_ | refine drawStep ?_
    have : i = l.length := by simp at h; omega
    exact finB rfl (by subst this; rw [rises_ok hpre])

def lettersS (k : Nat) : Int := IntKind.wrap .i64 (2 ^ k)
theorem lettersS_small {k : Nat} (h : k ≤ 62) : lettersS k = 2 ^ k := by
  have : 2 ^ k ≤ 2 ^ 62 := Nat.pow_le_pow_right (by omega) h
  have e : ((2 : Int) ^ k) = ((2 ^ k : Nat) : Int) := by simp
  rw [lettersS, e]
  generalize 2 ^ k = q at *
  exact IntWalk.i64_in _ (by constructor <;> omega)
theorem wrap_wrap_mul (a b : Int) : IntKind.wrap .i64 (IntKind.wrap .i64 a * b) = IntKind.wrap .i64 (a * b) := by
  simp only [IntKind.wrap_i64]
  have h1 : ∀ x : Int, (x + 9223372036854775808) % 18446744073709551616 - 9223372036854775808 = x - 18446744073709551616 * ((x + 9223372036854775808) / 18446744073709551616) := fun x => by omega
  rw [h1 a]
  generalize (a + 9223372036854775808) / 18446744073709551616 = q
  have : (a - 18446744073709551616 * q) * b = a * b + 18446744073709551616 * (- (q * b)) := by
    rw [Int.sub_mul, Int.mul_assoc, Int.mul_neg]; omega
  rw [this]
  omega

theorem r12_Letters (k : Nat) (hk : k < 2^62) : Pure Try.prog 69 [.int .i64 k] (.int .i64 (lettersS k)) := by
  refine Pure.of_sw 13 Try.func69 rfl Try.ntmps69 (by kernel_rfl) (Nat.le_of_ble_eq_true (by kernel_rfl)) (by simp [closeds, AV.closed, aSs_closed, aIs_closed, aBs_closed, aRs_closed, aDen_closed]) (by simp [AV.closed, closeds, aSs_closed, aIs_closed, aBs_closed, aRs_closed, aDen_closed]) ?_; refine SW.of_vc ?_
  repeat first | refine opsStep ?_ | refine codeStep ?_ | refine drawStep ?_
  refine loopE_of (ι := {i : Nat // i ≤ k}) (fun i => (fr [(0, .int .i64 k), (3, .int .i64 (lettersS i.1)), (4, .int .i64 i.1)], [])) (fun i => k - i.1) ⟨0, by omega⟩ (Ent.fr' ⟨(by kernel_rfl), (by kernel_rfl), (by kernel_rfl), trivial⟩ (by kernel_rfl)) ?_
  rintro ⟨i, hi⟩
  repeat first | refine opsStep ?_ | refine codeStep ?_ | refine drawStep ?_
  refine decB_dec (fun h => ?_) (fun h => ?_)
  · have hik : i < k := by simpa using h
    repeat first | refine opsStep ?_ | refine codeStep ?_ | refine drawStep ?_
    refine ⟨⟨i + 1, by omega⟩, (by show k - (i + 1) < k - i; omega), Ent.fr' ⟨(by kernel_rfl), ?_, inc_slot (i := i) (by omega), trivial⟩ (by kernel_rfl)⟩
    show AV.int .i64 (IntKind.wrap .i64 (IntKind.wrap .i64 (2 ^ i) * 2)) = AV.int .i64 (IntKind.wrap .i64 (2 ^ (i + 1)))
    rw [wrap_wrap_mul, Int.pow_succ]
  · repeat first | refine opsStep ?_ | refine codeStep ?_ | refine drawStep ?_
    have : i = k := by simp at h; omega
    subst this
    exact finE_of (by kernel_rfl)

def tracksS (l : List (List UInt8)) (n : Int) : Bool := decide (l.length ≤ 6) && risesS l && decide (1 ≤ n) && decide (n ≤ 256)

theorem r12_Frame (k : SK) (l : List (List UInt8)) (n : Int) (hl : l.length < 2^62) (hs : ∀ s ∈ l, s.length < 2^62) : Pure Try.prog 49 [aSs k l, .int .i64 n] (.bool (tracksS l n)) := by
  refine Pure.of_sw 20 Try.func49 rfl Try.ntmps49 (by kernel_rfl) (Nat.le_of_ble_eq_true (by kernel_rfl)) (by simp [closeds, AV.closed, aSs_closed, aIs_closed, aBs_closed, aRs_closed, aDen_closed]) (by simp [AV.closed, closeds, aSs_closed, aIs_closed, aBs_closed, aRs_closed, aDen_closed]) ?_; refine SW.of_vc ?_
  repeat first | refine opsStep ?_ | refine codeStep ?_ | refine drawStep ?_
  refine decB_dec (fun h1 => ?_) (fun h1 => ?_)
  · repeat first | refine opsStep ?_ | refine codeStep ?_ | refine drawStep ?_
    refine callP (r04_Rises k l hl hs) ?_
    repeat first | refine opsStep ?_ | refine codeStep ?_ | refine drawStep ?_
    have e1 : decide (l.length ≤ 6) = true := decide_eq_true (by have := h1; omega)
    refine decB_split (fun h => ?_) (fun h => ?_)
    · repeat first | refine opsStep ?_ | refine codeStep ?_ | refine drawStep ?_
      refine decB_dec (fun h2 => ?_) (fun h2 => ?_)
      · repeat first | refine opsStep ?_ | refine codeStep ?_ | refine drawStep ?_
        exact finB rfl (by rw [tracksS, e1, h, decide_eq_true (show 1 ≤ n from h2)]; simp)
      · repeat first | refine opsStep ?_ | refine codeStep ?_ | refine drawStep ?_
        exact finB rfl (by rw [tracksS, decide_eq_false (show ¬ 1 ≤ n from h2)]; simp)
    · repeat first | refine opsStep ?_ | refine codeStep ?_ | refine drawStep ?_
      exact finB rfl (by rw [tracksS, h]; simp)
  · repeat first | refine opsStep ?_ | refine codeStep ?_ | refine drawStep ?_
    exact finB rfl (by rw [tracksS, decide_eq_false (show ¬ l.length ≤ 6 by have := h1; omega)]; simp)

theorem table_tracks (k : SK) (l : List (List UInt8)) (n : Int) (hl : l.length < 2^62) (hs : ∀ s ∈ l, s.length < 2^62) : Pure Try.prog 107 [aSs k l, .int .i64 n] (.bool (tracksS l n)) := by
  refine Pure.of_sw 20 Try.func107 rfl Try.ntmps107 (by kernel_rfl) (Nat.le_of_ble_eq_true (by kernel_rfl)) (by simp [closeds, AV.closed, aSs_closed, aIs_closed, aBs_closed, aRs_closed, aDen_closed]) (by simp [AV.closed, closeds, aSs_closed, aIs_closed, aBs_closed, aRs_closed, aDen_closed]) ?_; refine SW.of_vc ?_
  repeat first | refine opsStep ?_ | refine codeStep ?_ | refine drawStep ?_
  refine decB_dec (fun h1 => ?_) (fun h1 => ?_)
  · repeat first | refine opsStep ?_ | refine codeStep ?_ | refine drawStep ?_
    have e1 : decide (l.length ≤ 6) = true := decide_eq_true (by have := h1; omega)
    refine decB_dec (fun h2 => ?_) (fun h2 => ?_)
    · repeat first | refine opsStep ?_ | refine codeStep ?_ | refine drawStep ?_
      refine decB_dec (fun h3 => ?_) (fun h3 => ?_)
      · repeat first | refine opsStep ?_ | refine codeStep ?_ | refine drawStep ?_
        refine callP (glyph_Rises k l hl hs) ?_
        repeat first | refine opsStep ?_ | refine codeStep ?_ | refine drawStep ?_
        exact finB rfl (by rw [tracksS, e1, decide_eq_true (show 1 ≤ n from h2), decide_eq_true (show n ≤ 256 from h3)]; simp)
      · repeat first | refine opsStep ?_ | refine codeStep ?_ | refine drawStep ?_
        exact finB rfl (by rw [tracksS, decide_eq_false (show ¬ n ≤ 256 from h3)]; simp)
    · repeat first | refine opsStep ?_ | refine codeStep ?_ | refine drawStep ?_
      exact finB rfl (by rw [tracksS, decide_eq_false (show ¬ 1 ≤ n from h2)]; simp)
  · repeat first | refine opsStep ?_ | refine codeStep ?_ | refine drawStep ?_
    exact finB rfl (by rw [tracksS, decide_eq_false (show ¬ l.length ≤ 6 by have := h1; omega)]; simp)

def digN : Nat → Nat → List Int
  | _, 0 => []
  | a, n + 1 => ((a % 2 : Nat) : Int) :: digN (a / 2) n

theorem digN_length (a n) : (digN a n).length = n := by
  induction n generalizing a with
  | zero => rfl
  | succ n ih => simp [digN, ih]
theorem digN_snoc (a n) : digN a (n + 1) = digN a n ++ [((a / 2 ^ n % 2 : Nat) : Int)] := by
  induction n generalizing a with
  | zero => simp [digN]
  | succ n ih =>
    rw [digN, ih, digN, Nat.div_div_eq_div_mul, Nat.pow_succ, Nat.mul_comm]
    rfl

end Tab

/- Letters out of digits, digits out of letters. -/
namespace Tab
open Go Go.Proofs
set_option maxRecDepth 10000
set_option linter.unusedVariables false
set_option linter.unusedSimpArgs false
set_option linter.unusedSectionVars false

def letS : List Int → Int
  | [] => 0
  | d :: l => 2 * letS l + d

theorem letS_bound : ∀ {l : List Int}, (∀ d ∈ l, 0 ≤ d ∧ d ≤ 1) → 0 ≤ letS l ∧ letS l < ((2 ^ l.length : Nat) : Int)
  | [], _ => by simp [letS]
  | d :: l, h => by
    have ih := letS_bound (l := l) (fun x hx => h x (List.mem_cons_of_mem _ hx))
    have hd := h d (List.mem_cons_self ..)
    simp only [letS, List.length_cons, Nat.pow_succ]
    generalize 2 ^ l.length = q at *
    omega

def plS (l : List Int) : Int := if 6 < l.length ∨ ∃ p ∈ l, p < 0 ∨ 6 ≤ p then 2 else 0

theorem bits_places (k : SK) (l : List Int) (hl : l.length < 2^62) : Pure Try.prog 164 [aIs k l] (.int .i64 (plS l)) := by
  refine Pure.of_sw 21 Try.func164 rfl Try.ntmps164 (by kernel_rfl) (Nat.le_of_ble_eq_true (by kernel_rfl)) (by simp [closeds, AV.closed, aSs_closed, aIs_closed, aBs_closed, aRs_closed, aDen_closed]) (by simp [AV.closed, closeds, aSs_closed, aIs_closed, aBs_closed, aRs_closed, aDen_closed]) ?_; refine SW.of_vc ?_
  repeat first | refine opsStep ?_ | refine codeStep ?_ | refine drawStep ?_
  refine decB_dec (fun h6 => ?_) (fun h6 => ?_)
  · repeat first | refine opsStep ?_ | refine codeStep ?_ | refine drawStep ?_
    exact finV (v' := .int .i64 2) (by kernel_rfl) (by rw [plS, if_pos (.inl (by have := h6; omega))])
  · repeat first | refine opsStep ?_ | refine codeStep ?_ | refine drawStep ?_
    refine loopE_of (ι := {i : Nat // i ≤ l.length ∧ ∀ p ∈ l.take i, 0 ≤ p ∧ p < 6}) (fun i => (fr [(0, aIs k l), (8, aIs k l), (9, .int .i64 l.length), (10, .int .i64 i.1)], [])) (fun i => l.length - i.1) ⟨0, by omega, by simp⟩ (Ent.fr' ⟨(by kernel_rfl), (by kernel_rfl), (by kernel_rfl), (by kernel_rfl), trivial⟩ (by kernel_rfl)) ?_
    rintro ⟨i, hi, hpre⟩
    repeat first | refine opsStep ?_ | refine codeStep ?_ | refine drawStep ?_
    refine decB_dec (fun h => ?_) (fun h => ?_)
    · have hia : i < l.length := by simpa using h
      repeat first | refine opsStep ?_ | refine codeStep ?_ | refine drawStep ?_
      refine guardE_of (by simp; omega) ?_
      repeat first | refine opsStep ?_ | refine codeStep ?_ | refine drawStep ?_
      refine optE_of (c := .int .i64 l[i]) (by simp [Value.cells, hia]) ?_
      repeat first | refine opsStep ?_ | refine codeStep ?_ | refine drawStep ?_
      refine decB_dec (fun h1 => ?_) (fun h1 => ?_)
      · repeat first | refine opsStep ?_ | refine codeStep ?_ | refine drawStep ?_
        exact finV (v' := .int .i64 2) (by kernel_rfl) (by rw [plS, if_pos (.inr ⟨_, List.getElem_mem hia, .inl h1⟩)])
      · repeat first | refine opsStep ?_ | refine codeStep ?_ | refine drawStep ?_
        refine decB_dec (fun h2 => ?_) (fun h2 => ?_)
        · repeat first | refine opsStep ?_ | refine codeStep ?_ | refine drawStep ?_
          exact finV (v' := .int .i64 2) (by kernel_rfl) (by rw [plS, if_pos (.inr ⟨_, List.getElem_mem hia, .inr h2⟩)])
        · repeat first | refine opsStep ?_ | refine codeStep ?_ | refine drawStep ?_
          refine ⟨⟨i + 1, by omega, ?_⟩, (by show l.length - (i + 1) < l.length - i; omega), Ent.fr' ⟨(by kernel_rfl), (by kernel_rfl), (by kernel_rfl), inc_slot (i := i) (by omega), trivial⟩ (by kernel_rfl)⟩
          rw [List.take_succ_eq_append_getElem hia]
          intro p hp
          rcases List.mem_append.1 hp with hp | hp
          · exact hpre p hp
          · rw [List.mem_singleton.1 hp]; omega
    · repeat first | refine opsStep ?_ | refine codeStep ?_ | refine drawStep ?_
      have : i = l.length := by simp at h; omega
      exact finV (v' := .int .i64 0) (by kernel_rfl) (by
        subst this
        rw [List.take_length] at hpre
        rw [plS, if_neg]
        rintro (h | ⟨p, hp, h⟩)
        · have := h6; omega
        · have := hpre p hp; omega)

theorem bits_letters (a n : Nat) (hn : n ≤ 61) : Pure Try.prog 165 [.int .i64 a, .int .i64 n] (.bool (decide (a < 2 ^ n))) := by
  refine Pure.of_sw 13 Try.func165 rfl Try.ntmps165 (by kernel_rfl) (Nat.le_of_ble_eq_true (by kernel_rfl)) (by simp [closeds, AV.closed, aSs_closed, aIs_closed, aBs_closed, aRs_closed, aDen_closed]) (by simp [AV.closed, closeds, aSs_closed, aIs_closed, aBs_closed, aRs_closed, aDen_closed]) ?_; refine SW.of_vc ?_
  have e : IntKind.wrap .i64 (1 * 2 ^ (min (n : Int).toNat 64)) = ((2 ^ n : Nat) : Int) := by
    have : 2 ^ n ≤ 2 ^ 61 := Nat.pow_le_pow_right (by omega) hn
    rw [show min (n : Int).toNat 64 = n by simp; omega, show (1 : Int) * 2 ^ n = ((2 ^ n : Nat) : Int) by simp]
    generalize 2 ^ n = q at *
    exact IntWalk.i64_in _ (by omega)
  repeat first | refine opsStep ?_ | refine codeStep ?_ | refine drawStep ?_
  exact finB (b' := decide ((a : Int) < IntKind.wrap .i64 (1 * 2 ^ (min (n : Int).toNat 64)))) (by kernel_rfl) (by rw [e, decide_eq_decide]; exact Int.ofNat_lt)

theorem and_one (x : Nat) (hx : x < 2^63) : IntKind.wrap .i64 ((BitVec.ofInt 64 (x : Int) &&& BitVec.ofInt 64 1).toNat) = ((x % 2 : Nat) : Int) := by
  have e : (BitVec.ofInt 64 (x : Int) &&& BitVec.ofInt 64 1).toNat = x % 2 := by
    rw [BitVec.toNat_and, BitVec.toNat_ofInt, BitVec.toNat_ofInt]
    rw [show ((x : Int) % ((2 ^ 64 : Nat) : Int)).toNat = x by omega]
    rw [show (((1 : Int)) % ((2 ^ 64 : Nat) : Int)).toNat = 1 by rfl]
    exact Nat.and_one_is_mod x
  rw [e]
  exact IntWalk.i64_in _ (by omega)

theorem bits_Digit (a t : Nat) (ha : a < 2^62) (ht : t ≤ 61) : Pure Try.prog 166 [.int .i64 a, .int .i64 t] (.int .i64 ((a / 2 ^ t % 2 : Nat) : Int)) := by
  refine Pure.of_sw 19 Try.func166 rfl Try.ntmps166 (by kernel_rfl) (Nat.le_of_ble_eq_true (by kernel_rfl)) (by simp [closeds, AV.closed, aSs_closed, aIs_closed, aBs_closed, aRs_closed, aDen_closed]) (by simp [AV.closed, closeds, aSs_closed, aIs_closed, aBs_closed, aRs_closed, aDen_closed]) ?_; refine SW.of_vc ?_
  have e1 : (a : Int).fdiv (2 ^ (min (t : Int).toNat 64)) = ((a / 2 ^ t : Nat) : Int) := by
    rw [show min (t : Int).toNat 64 = t by simp; omega, show (2 : Int) ^ t = ((2 ^ t : Nat) : Int) by simp]
    rw [Int.fdiv_eq_ediv_of_nonneg _ (Int.natCast_nonneg _)]
    rfl
  repeat first | refine opsStep ?_ | refine codeStep ?_ | refine drawStep ?_
  refine decB_dec (fun h => ?_) (fun h => ?_)
  · exact absurd h (by omega)
  · repeat first | refine opsStep ?_ | refine codeStep ?_ | refine drawStep ?_
    exact finV (v' := .int .i64 (IntKind.wrap .i64 ((BitVec.ofInt 64 ((a : Int).fdiv (2 ^ (min (t : Int).toNat 64))) &&& BitVec.ofInt 64 1).toNat))) (by kernel_rfl) (by
      rw [e1, and_one _ (Nat.lt_of_le_of_lt (Nat.div_le_self _ _) (by omega))])

theorem or_shift (x d i : Nat) (hx : x < 2 ^ i) (hd : d ≤ 1) (hi : i ≤ 60) : IntKind.wrap .i64 ((BitVec.ofInt 64 (x : Int) ||| BitVec.ofInt 64 (IntKind.wrap .i64 ((d : Int) * 2 ^ (min (i : Int).toNat 64)))).toNat) = ((x + d * 2 ^ i : Nat) : Int) := by
  have hp : 2 ^ i ≤ 2 ^ 60 := Nat.pow_le_pow_right (by omega) hi
  have hs : IntKind.wrap .i64 ((d : Int) * 2 ^ (min (i : Int).toNat 64)) = ((d * 2 ^ i : Nat) : Int) := by
    rw [show min (i : Int).toNat 64 = i by simp; omega, show (d : Int) * 2 ^ i = ((d * 2 ^ i : Nat) : Int) by simp]
    have : d * 2 ^ i ≤ 1 * 2 ^ i := Nat.mul_le_mul_right _ hd
    generalize d * 2 ^ i = q at *
    exact IntWalk.i64_in _ (by omega)
  have hd2 : d * 2 ^ i ≤ 1 * 2 ^ i := Nat.mul_le_mul_right _ hd
  have e : (BitVec.ofInt 64 (x : Int) ||| BitVec.ofInt 64 ((d * 2 ^ i : Nat) : Int)).toNat = x + d * 2 ^ i := by
    rw [BitVec.toNat_or, BitVec.toNat_ofInt, BitVec.toNat_ofInt]
    rw [show ((x : Int) % ((2 ^ 64 : Nat) : Int)).toNat = x by omega]
    rw [show (((d * 2 ^ i : Nat) : Int) % ((2 ^ 64 : Nat) : Int)).toNat = d * 2 ^ i by omega]
    rw [Nat.or_comm, Nat.mul_comm d, ← Nat.two_pow_add_eq_or_of_lt hx]
    omega
  rw [hs, e]
  exact IntWalk.i64_in _ (by omega)

/-- The letter made of the digits of a at these places. -/
def gatN (a : Nat) : List Nat → Nat
  | [] => 0
  | p :: l => a / 2 ^ p % 2 + 2 * gatN a l

theorem gatN_snoc (a : Nat) : ∀ (l : List Nat) (p : Nat), gatN a (l ++ [p]) = gatN a l + (a / 2 ^ p % 2) * 2 ^ l.length
  | [], p => by simp [gatN]
  | q :: l, p => by
    simp only [List.cons_append, gatN, gatN_snoc a l p, List.length_cons, Nat.pow_succ]
    rw [Nat.mul_add, Nat.mul_comm (2 ^ l.length) 2, ← Nat.mul_assoc, ← Nat.mul_assoc, Nat.mul_comm 2 (a / 2 ^ p % 2)]
    omega
theorem gatN_lt (a : Nat) : ∀ (l : List Nat), gatN a l < 2 ^ l.length
  | [] => by simp [gatN]
  | q :: l => by
    have := gatN_lt a l
    simp only [gatN, List.length_cons, Nat.pow_succ]
    omega

theorem bits_Gather (k : SK) (a : Nat) (l : List Nat) (ha : a < 64) (hl : l.length ≤ 6) (hp : ∀ p ∈ l, p < 6) : Pure Try.prog 141 [.int .i64 a, aIs k (l.map fun p : Nat => (p : Int))] (.tup [.int .i64 (gatN a l : Nat), .int .i64 0]) := by
  have hpl : plS (l.map fun p : Nat => (p : Int)) = 0 := by
    rw [plS, if_neg]
    rintro (h | ⟨p, hm, h⟩)
    · simp at h; omega
    · obtain ⟨q, hq, rfl⟩ := List.mem_map.1 hm
      have := hp q hq; omega
  have hlet := bits_letters a 6 (by omega)
  rw [decide_eq_true (show a < 2 ^ 6 by omega)] at hlet
  have hpc := bits_places k (l.map fun p : Nat => (p : Int)) (by simp; omega)
  rw [hpl] at hpc
  refine Pure.of_sw 33 Try.func141 rfl Try.ntmps141 (by kernel_rfl) (Nat.le_of_ble_eq_true (by kernel_rfl)) (by simp [closeds, AV.closed, aSs_closed, aIs_closed, aBs_closed, aRs_closed, aDen_closed]) (by simp [AV.closed, closeds, aSs_closed, aIs_closed, aBs_closed, aRs_closed, aDen_closed]) ?_; refine SW.of_vc ?_
  repeat first | refine opsStep ?_ | refine codeStep ?_ | refine drawStep ?_
  refine callP hpc ?_
  repeat first | refine opsStep ?_ | refine codeStep ?_ | refine drawStep ?_
  refine callP hlet ?_
  repeat first | refine opsStep ?_ | refine codeStep ?_ | refine drawStep ?_
  refine loopE_of (ι := {i : Nat // i ≤ l.length}) (fun i => (fr [(0, .int .i64 a), (1, aIs k (l.map fun p : Nat => (p : Int))), (6, .int .i64 (gatN a (l.take i.1) : Nat)), (17, aIs k (l.map fun p : Nat => (p : Int))), (18, .int .i64 l.length), (19, .int .i64 i.1)], [])) (fun i => l.length - i.1) ⟨0, by omega⟩
    (Ent.fr' ⟨(by kernel_rfl), (by kernel_rfl), (by kernel_rfl), (by kernel_rfl), (congrArg (fun n : Nat => AV.int .i64 n) (List.length_map _) : _), (by kernel_rfl), trivial⟩ (by kernel_rfl)) ?_
  rintro ⟨i, hi⟩
  repeat first | refine opsStep ?_ | refine codeStep ?_ | refine drawStep ?_
  refine decB_dec (fun h => ?_) (fun h => ?_)
  · have hia : i < l.length := by simpa using h
    have hpi := hp _ (List.getElem_mem hia)
    repeat first | refine opsStep ?_ | refine codeStep ?_ | refine drawStep ?_
    refine guardE_of (by simp; omega) ?_
    repeat first | refine opsStep ?_ | refine codeStep ?_ | refine drawStep ?_
    refine optE_of (c := .int .i64 ((l[i] : Nat) : Int)) (by simp [Value.cells, hia]) ?_
    repeat first | refine opsStep ?_ | refine codeStep ?_ | refine drawStep ?_
    refine callP (bits_Digit a l[i] (by omega) (by omega)) ?_
    repeat first | refine opsStep ?_ | refine codeStep ?_ | refine drawStep ?_
    have hgl := gatN_lt a (l.take i)
    rw [List.length_take, Nat.min_eq_left hi] at hgl
    refine ⟨⟨i + 1, by omega⟩, (by show l.length - (i + 1) < l.length - i; omega), Ent.fr' ⟨(by kernel_rfl), (by kernel_rfl), ?_, (by kernel_rfl), (by kernel_rfl), inc_slot (i := i) (by omega), trivial⟩ (by kernel_rfl)⟩
    have := or_shift (gatN a (l.take i)) (a / 2 ^ l[i] % 2) i hgl (by omega) (by omega)
    have e3 : gatN a (l.take (i + 1)) = gatN a (l.take i) + a / 2 ^ l[i] % 2 * 2 ^ i := by
      rw [List.take_succ_eq_append_getElem hia, gatN_snoc, List.length_take, Nat.min_eq_left hi]
    exact congrArg (AV.int .i64) (this.trans (congrArg (fun n : Nat => (n : Int)) e3.symm))
  · repeat first | refine opsStep ?_ | refine codeStep ?_ | refine drawStep ?_
    have : i = l.length := by simp at h; omega
    subst this
    exact finV (v' := .tup [.int .i64 (gatN a (l.take l.length) : Nat), .int .i64 0]) (by kernel_rfl) (by rw [List.take_length])

end Tab

/- Copies; least and greatest of a row. -/
namespace Tab
open Go Go.Proofs
set_option maxRecDepth 10000
set_option linter.unusedVariables false
set_option linter.unusedSimpArgs false
set_option linter.unusedSectionVars false

theorem slices_Clone_S (k : SK) (l : List (List UInt8)) (hl : l.length * 16 ≤ 140737488355328) : Pure Try.prog 64 [aSs k l] (aSs .any l) := by
  refine Pure.anyK (fun h0 _ => ?_) ?_
  · have : l = [] := List.length_eq_zero_iff.1 (by simpa using h0)
    subst this
    refine Pure.of_sw 8 Try.func64 rfl Try.ntmps64 (by kernel_rfl) (Nat.le_of_ble_eq_true (by kernel_rfl)) (by simp [closeds, AV.closed, aSs_closed, aIs_closed, aBs_closed, aRs_closed, aDen_closed]) (by simp [AV.closed, closeds, aSs_closed, aIs_closed, aBs_closed, aRs_closed, aDen_closed]) ?_; refine SW.of_vc ?_
    repeat first | refine opsStep ?_ | refine codeStep ?_ | refine drawStep ?_
    exact finTo 2 (x := .sl .nil 0 []) (by kernel_rfl) (fun _ _ _ _ h => sl_any h) (by kernel_rfl)
  · refine (?_ : Pure Try.prog _ [aSs .nn l] _)
    refine Pure.of_sw 8 Try.func64 rfl Try.ntmps64 (by kernel_rfl) (Nat.le_of_ble_eq_true (by kernel_rfl)) (by simp [closeds, AV.closed, aSs_closed, aIs_closed, aBs_closed, aRs_closed, aDen_closed]) (by simp [AV.closed, closeds, aSs_closed, aIs_closed, aBs_closed, aRs_closed, aDen_closed]) ?_; refine SW.of_vc ?_
    repeat first | refine opsStep ?_ | refine codeStep ?_ | refine drawStep ?_
    refine guardE_of (by simp [Value.cells]) ?_
    refine guardE_of ⟨by omega, by show (0 + l.length) * 16 ≤ 140737488355328; omega⟩ ?_
    repeat first | refine opsStep ?_ | refine codeStep ?_ | refine drawStep ?_
    exact finFrz 2 (b := 0) (g := 1) (es := 1) (Eq.trans (b := .hs 0 1 0 (0 + l.length) 1) (by kernel_rfl) (by rw [Nat.zero_add])) (by kernel_rfl) (by simp) (by kernel_rfl)

theorem slices_Clone_B (k : SK) (l : List Bool) (hl : l.length * 1 ≤ 140737488355328) : Pure Try.prog 75 [aBs k l] (aBs .any l) := by
  refine Pure.anyK (fun h0 _ => ?_) ?_
  · have : l = [] := List.length_eq_zero_iff.1 (by simpa using h0)
    subst this
    refine Pure.of_sw 8 Try.func75 rfl Try.ntmps75 (by kernel_rfl) (Nat.le_of_ble_eq_true (by kernel_rfl)) (by simp [closeds, AV.closed, aSs_closed, aIs_closed, aBs_closed, aRs_closed, aDen_closed]) (by simp [AV.closed, closeds, aSs_closed, aIs_closed, aBs_closed, aRs_closed, aDen_closed]) ?_; refine SW.of_vc ?_
    repeat first | refine opsStep ?_ | refine codeStep ?_ | refine drawStep ?_
    exact finTo 2 (x := .sl .nil 0 []) (by kernel_rfl) (fun _ _ _ _ h => sl_any h) (by kernel_rfl)
  · refine (?_ : Pure Try.prog _ [aBs .nn l] _)
    refine Pure.of_sw 8 Try.func75 rfl Try.ntmps75 (by kernel_rfl) (Nat.le_of_ble_eq_true (by kernel_rfl)) (by simp [closeds, AV.closed, aSs_closed, aIs_closed, aBs_closed, aRs_closed, aDen_closed]) (by simp [AV.closed, closeds, aSs_closed, aIs_closed, aBs_closed, aRs_closed, aDen_closed]) ?_; refine SW.of_vc ?_
    repeat first | refine opsStep ?_ | refine codeStep ?_ | refine drawStep ?_
    refine guardE_of (by simp [Value.cells]) ?_
    refine guardE_of ⟨by omega, by show (0 + l.length) * 1 ≤ 140737488355328; omega⟩ ?_
    repeat first | refine opsStep ?_ | refine codeStep ?_ | refine drawStep ?_
    exact finFrz 2 (b := 0) (g := 1) (es := 1) (Eq.trans (b := .hs 0 1 0 (0 + l.length) 1) (by kernel_rfl) (by rw [Nat.zero_add])) (by kernel_rfl) (by simp) (by kernel_rfl)

theorem slices_Clone_S_new (k : SK) (l : List (List UInt8)) (hl : l.length * 16 ≤ 140737488355328) : PureNew Try.prog 64 [aSs k l] l.length 1 (l.map .str) := by
  refine ⟨by simp [closeds, aSs_closed], by simp only [closeds_iff, List.mem_map]; rintro _ ⟨_, _, rfl⟩; simp [AV.closed], ACall.anyK (fun h0 _ => ?_) (?_ : ACall Try.prog _ [aSs .nn l] _ _)⟩
  · have : l = [] := List.length_eq_zero_iff.1 (by simpa using h0)
    subst this
    refine ACall.of_sw 8 Try.func64 rfl Try.ntmps64 (by kernel_rfl) (Nat.le_of_ble_eq_true (by kernel_rfl)) ?_; refine SW.of_vc ?_
    repeat first | refine opsStep ?_ | refine codeStep ?_ | refine drawStep ?_
    refine finR (l := [(2, .sl .nil 0 [])]) (H₁ := []) (v := .hs 0 0 0 0 1) ⟨(by kernel_rfl), trivial⟩ (by kernel_rfl) (Ent.nil 2 1 rfl) (by kernel_rfl) ?_
    exact ⟨0, rfl, rfl⟩
  · refine ACall.of_sw 8 Try.func64 rfl Try.ntmps64 (by kernel_rfl) (Nat.le_of_ble_eq_true (by kernel_rfl)) ?_; refine SW.of_vc ?_
    repeat first | refine opsStep ?_ | refine codeStep ?_ | refine drawStep ?_
    refine guardE_of (by simp [Value.cells]) ?_
    refine guardE_of ⟨by omega, by show (0 + l.length) * 16 ≤ 140737488355328; omega⟩ ?_
    repeat first | refine opsStep ?_ | refine codeStep ?_ | refine drawStep ?_
    refine finR (l := [(2, .hs 0 1 0 (0 + l.length) 1)]) (H₁ := [.cells 1 (l.map .str)]) (v := .hs 0 1 0 (0 + l.length) 1) ⟨(by kernel_rfl), trivial⟩ (by kernel_rfl) (Ent.refl _ _ _) (by kernel_rfl) ?_
    exact ⟨1, by rw [Nat.zero_add], rfl⟩

theorem slices_Clone_B_new (k : SK) (l : List Bool) (hl : l.length * 1 ≤ 140737488355328) : PureNew Try.prog 75 [aBs k l] l.length 1 (l.map .bool) := by
  refine ⟨by simp [closeds, aBs_closed], by simp only [closeds_iff, List.mem_map]; rintro _ ⟨_, _, rfl⟩; simp [AV.closed], ACall.anyK (fun h0 _ => ?_) (?_ : ACall Try.prog _ [aBs .nn l] _ _)⟩
  · have : l = [] := List.length_eq_zero_iff.1 (by simpa using h0)
    subst this
    refine ACall.of_sw 8 Try.func75 rfl Try.ntmps75 (by kernel_rfl) (Nat.le_of_ble_eq_true (by kernel_rfl)) ?_; refine SW.of_vc ?_
    repeat first | refine opsStep ?_ | refine codeStep ?_ | refine drawStep ?_
    refine finR (l := [(2, .sl .nil 0 [])]) (H₁ := []) (v := .hs 0 0 0 0 1) ⟨(by kernel_rfl), trivial⟩ (by kernel_rfl) (Ent.nil 2 1 rfl) (by kernel_rfl) ?_
    exact ⟨0, rfl, rfl⟩
  · refine ACall.of_sw 8 Try.func75 rfl Try.ntmps75 (by kernel_rfl) (Nat.le_of_ble_eq_true (by kernel_rfl)) ?_; refine SW.of_vc ?_
    repeat first | refine opsStep ?_ | refine codeStep ?_ | refine drawStep ?_
    refine guardE_of (by simp [Value.cells]) ?_
    refine guardE_of ⟨by omega, by show (0 + l.length) * 1 ≤ 140737488355328; omega⟩ ?_
    repeat first | refine opsStep ?_ | refine codeStep ?_ | refine drawStep ?_
    refine finR (l := [(2, .hs 0 1 0 (0 + l.length) 1)]) (H₁ := [.cells 1 (l.map .bool)]) (v := .hs 0 1 0 (0 + l.length) 1) ⟨(by kernel_rfl), trivial⟩ (by kernel_rfl) (Ent.refl _ _ _) (by kernel_rfl) ?_
    exact ⟨1, by rw [Nat.zero_add], rfl⟩

def minL : Int → List Int → Int
  | m, [] => m
  | m, x :: l => minL (if x < m then x else m) l
theorem minL_snoc : ∀ (l : List Int) (m x : Int), minL m (l ++ [x]) = if x < minL m l then x else minL m l
  | [], _, _ => rfl
  | y :: l, m, x => minL_snoc l _ x

theorem slices_Min (k : SK) (a : Int) (l : List Int) (hl : l.length < 2^60) : Pure Try.prog 138 [aIs k (a :: l)] (.int .i64 (minL a l)) := by
  refine Pure.of_sw 25 Try.func138 rfl Try.ntmps138 (by kernel_rfl) (Nat.le_of_ble_eq_true (by kernel_rfl)) (by simp [closeds, AV.closed, aSs_closed, aIs_closed, aBs_closed, aRs_closed, aDen_closed]) (by simp [AV.closed, closeds, aSs_closed, aIs_closed, aBs_closed, aRs_closed, aDen_closed]) ?_; refine SW.of_vc ?_
  repeat first | refine opsStep ?_ | refine codeStep ?_ | refine drawStep ?_
  refine guardE_of (by simp) ?_
  repeat first | refine opsStep ?_ | refine codeStep ?_ | refine drawStep ?_
  refine loopE_of (ι := {i : Nat // i ≤ l.length}) (fun i => (fr [(0, aIs k (a :: l)), (3, .int .i64 (minL a (l.take i.1))), (4, .int .i64 ((i.1 + 1 : Nat) : Int))], [])) (fun i => l.length - i.1) ⟨0, by omega⟩ (Ent.fr' ⟨(by kernel_rfl), (by kernel_rfl), (by kernel_rfl), trivial⟩ (by kernel_rfl)) ?_
  rintro ⟨i, hi⟩
  repeat first | refine opsStep ?_ | refine codeStep ?_ | refine drawStep ?_
  refine decB_dec (fun h => ?_) (fun h => ?_)
  · have hia : i < l.length := by have := h; simp at this; omega
    repeat first | refine opsStep ?_ | refine codeStep ?_ | refine drawStep ?_
    refine guardE_of (by simp; omega) ?_
    repeat first | refine opsStep ?_ | refine codeStep ?_ | refine drawStep ?_
    refine optE_of (c := .int .i64 l[i]) (by simp [Value.cells, hia]) ?_
    repeat first | refine opsStep ?_ | refine codeStep ?_ | refine drawStep ?_
    refine ⟨⟨i + 1, by omega⟩, (by show l.length - (i + 1) < l.length - i; omega), Ent.fr' ⟨(by kernel_rfl), ?_, inc_slot (i := i + 1) (by omega), trivial⟩ (by kernel_rfl)⟩
    rw [List.take_succ_eq_append_getElem hia, minL_snoc]
    kernel_rfl
  · repeat first | refine opsStep ?_ | refine codeStep ?_ | refine drawStep ?_
    have : i = l.length := by have := h; simp at this; omega
    subst this
    exact finV (v' := .int .i64 (minL a (l.take l.length))) (by kernel_rfl) (by rw [List.take_length])

def maxL : Int → List Int → Int
  | m, [] => m
  | m, x :: l => maxL (if x > m then x else m) l
theorem maxL_snoc : ∀ (l : List Int) (m x : Int), maxL m (l ++ [x]) = if x > maxL m l then x else maxL m l
  | [], _, _ => rfl
  | y :: l, m, x => maxL_snoc l _ x

theorem slices_Max (k : SK) (a : Int) (l : List Int) (hl : l.length < 2^60) : Pure Try.prog 139 [aIs k (a :: l)] (.int .i64 (maxL a l)) := by
  refine Pure.of_sw 25 Try.func139 rfl Try.ntmps139 (by kernel_rfl) (Nat.le_of_ble_eq_true (by kernel_rfl)) (by simp [closeds, AV.closed, aSs_closed, aIs_closed, aBs_closed, aRs_closed, aDen_closed]) (by simp [AV.closed, closeds, aSs_closed, aIs_closed, aBs_closed, aRs_closed, aDen_closed]) ?_; refine SW.of_vc ?_
  repeat first | refine opsStep ?_ | refine codeStep ?_ | refine drawStep ?_
  refine guardE_of (by simp) ?_
  repeat first | refine opsStep ?_ | refine codeStep ?_ | refine drawStep ?_
  refine loopE_of (ι := {i : Nat // i ≤ l.length}) (fun i => (fr [(0, aIs k (a :: l)), (3, .int .i64 (maxL a (l.take i.1))), (4, .int .i64 ((i.1 + 1 : Nat) : Int))], [])) (fun i => l.length - i.1) ⟨0, by omega⟩ (Ent.fr' ⟨(by kernel_rfl), (by kernel_rfl), (by kernel_rfl), trivial⟩ (by kernel_rfl)) ?_
  rintro ⟨i, hi⟩
  repeat first | refine opsStep ?_ | refine codeStep ?_ | refine drawStep ?_
  refine decB_dec (fun h => ?_) (fun h => ?_)
  · have hia : i < l.length := by have := h; simp at this; omega
    repeat first | refine opsStep ?_ | refine codeStep ?_ | refine drawStep ?_
    refine guardE_of (by simp; omega) ?_
    repeat first | refine opsStep ?_ | refine codeStep ?_ | refine drawStep ?_
    refine optE_of (c := .int .i64 l[i]) (by simp [Value.cells, hia]) ?_
    repeat first | refine opsStep ?_ | refine codeStep ?_ | refine drawStep ?_
    refine ⟨⟨i + 1, by omega⟩, (by show l.length - (i + 1) < l.length - i; omega), Ent.fr' ⟨(by kernel_rfl), ?_, inc_slot (i := i + 1) (by omega), trivial⟩ (by kernel_rfl)⟩
    rw [List.take_succ_eq_append_getElem hia, maxL_snoc]
    kernel_rfl
  · repeat first | refine opsStep ?_ | refine codeStep ?_ | refine drawStep ?_
    have : i = l.length := by have := h; simp at this; omega
    subst this
    exact finV (v' := .int .i64 (maxL a (l.take l.length))) (by kernel_rfl) (by rw [List.take_length])


end Tab

/- Machines: which are right, copies, comparing. -/
namespace Tab
open Go Go.Proofs
set_option maxRecDepth 10000
set_option linter.unusedVariables false
set_option linter.unusedSimpArgs false
set_option linter.unusedSectionVars false

structure DenOk (d : Den) : Prop where
  tracks : d.tracks.length * 16 ≤ 140737488351232
  names : ∀ s ∈ d.tracks, s.length ≤ 140737488351232
  accept : d.accept.length ≤ 140737488351232
  next : d.next.length * 24 ≤ 140737488351232
  rows : ∀ r ∈ d.next, r.2.length * 8 ≤ 140737488351232

def rowOk (k n : Nat) (r : List Int) : Bool := decide (r.length = 2 ^ k) && r.all fun x => decide (0 ≤ x) && decide (x < n)
def rightS (d : Den) : Bool := tracksS d.tracks d.accept.length && decide (d.next.length = d.accept.length) && d.next.all fun r => rowOk d.tracks.length d.accept.length r.2

theorem minL_lt : ∀ (l : List Int) (a : Int), minL a l < 0 ↔ ∃ x ∈ a :: l, x < 0
  | [], a => by simp [minL]
  | y :: l, a => by
    rw [minL, minL_lt l]
    simp only [List.mem_cons, exists_eq_or_imp]
    split
    · rename_i h
      constructor
      · rintro (h | h)
        · exact .inr (.inl h)
        · exact .inr (.inr h)
      · rintro (h' | h' | h')
        · exact .inl (by omega)
        · exact .inl h'
        · exact .inr h'
    · rename_i h
      constructor
      · rintro (h | h)
        · exact .inl h
        · exact .inr (.inr h)
      · rintro (h' | h' | h')
        · exact .inl h'
        · exact .inl (by omega)
        · exact .inr h'
theorem maxL_ge (n : Int) : ∀ (l : List Int) (a : Int), n ≤ maxL a l ↔ ∃ x ∈ a :: l, n ≤ x
  | [], a => by simp [maxL]
  | y :: l, a => by
    rw [maxL, maxL_ge n l]
    simp only [List.mem_cons, exists_eq_or_imp]
    split
    · rename_i h
      constructor
      · rintro (h | h)
        · exact .inr (.inl h)
        · exact .inr (.inr h)
      · rintro (h' | h' | h')
        · exact .inl (by omega)
        · exact .inl h'
        · exact .inr h'
    · rename_i h
      constructor
      · rintro (h | h)
        · exact .inl h
        · exact .inr (.inr h)
      · rintro (h' | h' | h')
        · exact .inl h'
        · exact .inl (by omega)
        · exact .inr h'

theorem rightS_bad {d : Den} {i : Nat} (hi : i < d.next.length) (h : rowOk d.tracks.length d.accept.length (d.next[i]).2 = false) : rightS d = false := by
  rw [rightS, ← Bool.not_eq_true, Bool.and_eq_true, List.all_eq_true]
  rintro ⟨_, k⟩
  have := k _ (List.getElem_mem hi)
  simp [h] at this

theorem tracksS_le {l : List (List UInt8)} {n : Int} (h : tracksS l n = true) : l.length ≤ 6 := by
  simp only [tracksS, Bool.and_eq_true, decide_eq_true_eq] at h
  exact h.1.1.1

theorem tracksS_parts {l : List (List UInt8)} {n : Int} (h : tracksS l n = true) : l.length ≤ 6 ∧ risesS l = true ∧ 1 ≤ n ∧ n ≤ 256 := by
  simp only [tracksS, Bool.and_eq_true, decide_eq_true_eq] at h
  exact ⟨h.1.1.1, h.1.1.2, h.1.2, h.2⟩
theorem tracksS_mk {l : List (List UInt8)} {n : Int} (h1 : l.length ≤ 6) (h2 : risesS l = true) (h3 : 1 ≤ n) (h4 : n ≤ 256) : tracksS l n = true := by
  simp [tracksS, h1, h2, h3, h4]

theorem shl_one {k : Nat} (hk : k ≤ 60) : IntKind.wrap .i64 (1 * 2 ^ (min (k : Int).toNat (IntKind.bits .i64))) = ((2 ^ k : Nat) : Int) := by
  show IntKind.wrap .i64 (1 * 2 ^ (min (k : Int).toNat 64)) = ((2 ^ k : Nat) : Int)
  have : 2 ^ k ≤ 2 ^ 60 := Nat.pow_le_pow_right (by omega) hk
  rw [show min (k : Int).toNat 64 = k by simp; omega, show (1 : Int) * 2 ^ k = ((2 ^ k : Nat) : Int) by simp]
  generalize 2 ^ k = q at *
  exact IntWalk.i64_in _ (by omega)

@[irreducible] def rightE (d : Den) : Int := if rightS d = true then 0 else 3
theorem rightE_ok {d : Den} (h : rightS d = true) : rightE d = 0 := by rw [rightE, if_pos h]
theorem rightE_bad {d : Den} (h : rightS d = false) : rightE d = 3 := by rw [rightE, h]; rfl

theorem table_Right (d : Den) (hd : DenOk d) : Pure Try.prog 103 [aDen d] (.int .i64 (rightE d)) := by
  have h1 := hd.tracks
  have h2 := hd.accept
  have h3 := hd.next
  refine Pure.of_sw 47 Try.func103 rfl Try.ntmps103 (by kernel_rfl) (Nat.le_of_ble_eq_true (by kernel_rfl)) (by simp [closeds, AV.closed, aSs_closed, aIs_closed, aBs_closed, aRs_closed, aDen_closed]) (by simp [AV.closed, closeds, aSs_closed, aIs_closed, aBs_closed, aRs_closed, aDen_closed]) ?_; refine SW.of_vc ?_
  repeat first | refine opsStep ?_ | refine codeStep ?_ | refine drawStep ?_
  refine callP (table_tracks d.tk d.tracks d.accept.length (by omega) (fun s hs => by have := hd.names s hs; omega)) ?_
  repeat first | refine opsStep ?_ | refine codeStep ?_ | refine drawStep ?_
  refine decB_split (fun h => ?_) (fun h => ?_)
  · repeat first | refine opsStep ?_ | refine codeStep ?_ | refine drawStep ?_
    have ht : tracksS d.tracks d.accept.length = false := by simpa using h
    exact finV (v' := .int .i64 3) (by kernel_rfl) (by rw [rightE_bad (by rw [rightS, ht]; simp)])
  · repeat first | refine opsStep ?_ | refine codeStep ?_ | refine drawStep ?_
    have ht : tracksS d.tracks d.accept.length = true := by simpa using h
    have hk := tracksS_le ht
    have hpow : 2 ^ d.tracks.length ≤ 2 ^ 6 := Nat.pow_le_pow_right (by omega) hk
    refine decB_dec (fun hn => ?_) (fun hn => ?_)
    · repeat first | refine opsStep ?_ | refine codeStep ?_ | refine drawStep ?_
      exact finV (v' := .int .i64 3) (by kernel_rfl) (by rw [rightE_bad (by rw [rightS, decide_eq_false (show ¬ d.next.length = d.accept.length by have := hn; omega)]; simp)])
    · repeat first | refine opsStep ?_ | refine codeStep ?_ | refine drawStep ?_
      have hn' : d.next.length = d.accept.length := by have := hn; omega
      refine loopE_of (ι := {i : Nat // i ≤ d.next.length ∧ ∀ r ∈ d.next.take i, rowOk d.tracks.length d.accept.length r.2 = true})
        (fun i => (fr [(1, .ref 0 0 0), (3, .int .i64 d.accept.length), (22, aRs d.nk d.next), (23, .int .i64 d.next.length), (24, .int .i64 i.1)], [.cells 0 d.cells])) (fun i => d.next.length - i.1) ⟨0, by omega, by simp⟩ (Ent.fr' ⟨(by kernel_rfl), (by kernel_rfl), (by kernel_rfl), (by kernel_rfl), (by kernel_rfl), trivial⟩ (by kernel_rfl)) ?_
      rintro ⟨i, hi, hpre⟩
      repeat first | refine opsStep ?_ | refine codeStep ?_ | refine drawStep ?_
      refine decB_dec (fun h => ?_) (fun h => ?_)
      · have hia : i < d.next.length := by simpa using h
        have hbad : rowOk d.tracks.length d.accept.length (d.next[i]).2 = false → rightE d = 3 := fun e => rightE_bad (rightS_bad hia e)
        repeat first | refine opsStep ?_ | refine codeStep ?_ | refine drawStep ?_
        refine guardE_of (by simp; omega) ?_
        repeat first | refine opsStep ?_ | refine codeStep ?_ | refine drawStep ?_
        refine optE_of (c := aIs (d.next[i]).1 (d.next[i]).2) (by simp [Value.cells, hia]) ?_
        have hsh := shl_one (k := d.tracks.length) (by omega)
        repeat first | refine opsStep ?_ | refine codeStep ?_ | refine drawStep ?_
        refine decB_dec (fun hlen => ?_) (fun hlen => ?_)
        · repeat first | refine opsStep ?_ | refine codeStep ?_ | refine drawStep ?_
          exact finV (v' := .int .i64 3) (by kernel_rfl) (by
            rw [hbad (by rw [rowOk, decide_eq_false (fun e => hlen (by rw [hsh, ← e])), Bool.false_and])])
        · have hlen' : (d.next[i]).2.length = 2 ^ d.tracks.length := by
            have h5 := Decidable.of_not_not hlen
            rw [hsh] at h5
            exact Int.ofNat_inj.1 h5
          obtain ⟨a, l, hr⟩ : ∃ a l, (d.next[i]).2 = a :: l := by
            cases e : (d.next[i]).2 with
            | nil => rw [e] at hlen'; simp at hlen'; have := Nat.two_pow_pos d.tracks.length; omega
            | cons a l => exact ⟨a, l, rfl⟩
          have hll : l.length < 2 ^ 60 := by rw [hr] at hlen'; simp at hlen'; omega
          have hmin := slices_Min (d.next[i]).1 a l hll
          have hmax := slices_Max (d.next[i]).1 a l hll
          rw [← hr] at hmin hmax
          have hbad2 : ∀ x ∈ (d.next[i]).2, ¬ (0 ≤ x ∧ x < d.accept.length) → rowOk d.tracks.length d.accept.length (d.next[i]).2 = false := fun x hx hn => by
            rw [rowOk, ← Bool.not_eq_true, Bool.and_eq_true, List.all_eq_true]
            rintro ⟨_, k⟩
            have := k x hx
            simp at this
            exact hn this
          repeat first | refine opsStep ?_ | refine codeStep ?_ | refine drawStep ?_
          refine callP hmin ?_
          repeat first | refine opsStep ?_ | refine codeStep ?_ | refine drawStep ?_
          refine decB_dec (fun hmn => ?_) (fun hmn => ?_)
          · repeat first | refine opsStep ?_ | refine codeStep ?_ | refine drawStep ?_
            exact finV (v' := .int .i64 3) (by kernel_rfl) (by
              obtain ⟨x, hx, h0⟩ := (minL_lt l a).1 hmn
              rw [hbad (hbad2 x (by rw [hr]; exact hx) (by omega))])
          · repeat first | refine opsStep ?_ | refine codeStep ?_ | refine drawStep ?_
            refine callP hmax ?_
            repeat first | refine opsStep ?_ | refine codeStep ?_ | refine drawStep ?_
            refine decB_dec (fun hmx => ?_) (fun hmx => ?_)
            · repeat first | refine opsStep ?_ | refine codeStep ?_ | refine drawStep ?_
              exact finV (v' := .int .i64 3) (by kernel_rfl) (by
                obtain ⟨x, hx, h0⟩ := (maxL_ge _ l a).1 hmx
                rw [hbad (hbad2 x (by rw [hr]; exact hx) (by omega))])
            · repeat first | refine opsStep ?_ | refine codeStep ?_ | refine drawStep ?_
              have hok : rowOk d.tracks.length d.accept.length (d.next[i]).2 = true := by
                rw [rowOk, decide_eq_true hlen', Bool.true_and, List.all_eq_true]
                intro x hx
                rw [hr] at hx
                have c1 : ¬ x < 0 := fun k => hmn ((minL_lt l a).2 ⟨x, hx, k⟩)
                have c2 : ¬ (d.accept.length : Int) ≤ x := fun k => hmx ((maxL_ge _ l a).2 ⟨x, hx, k⟩)
                simp
                omega
              refine ⟨⟨i + 1, by omega, ?_⟩, (by show d.next.length - (i + 1) < d.next.length - i; omega), Ent.fr' ⟨(by kernel_rfl), (by kernel_rfl), (by kernel_rfl), (by kernel_rfl), inc_slot (i := i) (by omega), trivial⟩ (by kernel_rfl)⟩
              rw [List.take_succ_eq_append_getElem hia]
              intro r hr'
              rcases List.mem_append.1 hr' with hr' | hr'
              · exact hpre r hr'
              · rw [List.mem_singleton.1 hr']; exact hok
      · repeat first | refine opsStep ?_ | refine codeStep ?_ | refine drawStep ?_
        have : i = d.next.length := by simp at h; omega
        exact finV (v' := .int .i64 0) (by kernel_rfl) (by
          subst this
          rw [List.take_length] at hpre
          rw [rightE_ok (by rw [rightS, ht, decide_eq_true hn', List.all_eq_true.2 hpre]; simp)])

theorem r12_Right (d : Den) (hd : DenOk d) : Pure Try.prog 68 [aDen d] (.bool (rightS d)) := by
  have h1 := hd.tracks
  have h2 := hd.accept
  have h3 := hd.next
  refine Pure.of_sw 68 Try.func68 rfl Try.ntmps68 (by kernel_rfl) (Nat.le_of_ble_eq_true (by kernel_rfl)) (by simp [closeds, AV.closed, aSs_closed, aIs_closed, aBs_closed, aRs_closed, aDen_closed]) (by simp [AV.closed, closeds, aSs_closed, aIs_closed, aBs_closed, aRs_closed, aDen_closed]) ?_; refine SW.of_vc ?_
  repeat first | refine opsStep ?_ | refine codeStep ?_ | refine drawStep ?_
  refine callP (r12_Frame d.tk d.tracks d.accept.length (by omega) (fun s hs => by have := hd.names s hs; omega)) ?_
  repeat first | refine opsStep ?_ | refine codeStep ?_ | refine drawStep ?_
  refine decB_split (fun h => ?_) (fun h => ?_)
  · repeat first | refine opsStep ?_ | refine codeStep ?_ | refine drawStep ?_
    have ht : tracksS d.tracks d.accept.length = false := by simpa using h
    exact finB (b' := false) (by kernel_rfl) (by rw [rightS, ht]; simp)
  · repeat first | refine opsStep ?_ | refine codeStep ?_ | refine drawStep ?_
    have ht : tracksS d.tracks d.accept.length = true := by simpa using h
    have hk := tracksS_le ht
    have hpow : 2 ^ d.tracks.length ≤ 2 ^ 6 := Nat.pow_le_pow_right (by omega) hk
    refine decB_dec (fun hn => ?_) (fun hn => ?_)
    · repeat first | refine opsStep ?_ | refine codeStep ?_ | refine drawStep ?_
      exact finB (b' := false) (by kernel_rfl) (by rw [rightS, decide_eq_false (show ¬ d.next.length = d.accept.length by have := hn; omega)]; simp)
    · repeat first | refine opsStep ?_ | refine codeStep ?_ | refine drawStep ?_
      have hn' : d.next.length = d.accept.length := by have := hn; omega
      refine loopE_of (ι := {i : Nat // i ≤ d.next.length ∧ ∀ r ∈ d.next.take i, rowOk d.tracks.length d.accept.length r.2 = true})
        (fun i => (fr [(1, .ref 0 0 0), (3, .int .i64 d.accept.length), (4, .int .i64 i.1)], [.cells 0 d.cells])) (fun i => d.next.length - i.1) ⟨0, by omega, by simp⟩ (Ent.fr' ⟨(by kernel_rfl), (by kernel_rfl), (by kernel_rfl), trivial⟩ (by kernel_rfl)) ?_
      rintro ⟨i, hi, hpre⟩
      repeat first | refine opsStep ?_ | refine codeStep ?_ | refine drawStep ?_
      refine decB_dec (fun h => ?_) (fun h => ?_)
      · have hia : i < d.next.length := by have := h; simp at this; omega
        have hrow := hd.rows _ (List.getElem_mem hia)
        have hlet : lettersS d.tracks.length = ((2 ^ d.tracks.length : Nat) : Int) := by rw [lettersS_small (by omega)]; simp
        have hbad : rowOk d.tracks.length d.accept.length (d.next[i]).2 = false → rightS d = false := fun e => rightS_bad hia e
        have hbad2 : ∀ x ∈ (d.next[i]).2, ¬ (0 ≤ x ∧ x < d.accept.length) → rowOk d.tracks.length d.accept.length (d.next[i]).2 = false := fun x hx hn => by
          rw [rowOk, ← Bool.not_eq_true, Bool.and_eq_true, List.all_eq_true]
          rintro ⟨_, k⟩
          have := k x hx
          simp at this
          exact hn this
        repeat first | refine opsStep ?_ | refine codeStep ?_ | refine drawStep ?_
        refine SW.drawn rfl (by kernel_rfl) ?_
        repeat first | refine opsStep ?_ | refine codeStep ?_ | refine drawStep ?_
        refine guardE_of (by simp; omega) ?_
        repeat first | refine opsStep ?_ | refine codeStep ?_ | refine drawStep ?_
        refine optE_of (c := aIs (d.next[i]).1 (d.next[i]).2) (by simp [Value.cells, hia]) ?_
        repeat first | refine opsStep ?_ | refine codeStep ?_ | refine drawStep ?_
        refine .inl ⟨_, _, [], (r12_Letters d.tracks.length (by omega)), RdsN_refl _, .inr rfl, none_need, ?_⟩
        repeat first | refine opsStep ?_ | refine codeStep ?_ | refine drawStep ?_
        refine ⟨by kernel_rfl, ?_⟩
        repeat first | refine opsStep ?_ | refine codeStep ?_ | refine drawStep ?_
        refine decB_dec (fun hlen => ?_) (fun hlen => ?_)
        · repeat first | refine opsStep ?_ | refine codeStep ?_ | refine drawStep ?_
          exact finB (b' := false) (by kernel_rfl) (by rw [hbad (by rw [rowOk, decide_eq_false (fun e => hlen (by rw [hlet, ← e])), Bool.false_and])])
        · have hlen' : (d.next[i]).2.length = 2 ^ d.tracks.length := by
            have h5 := Decidable.of_not_not hlen
            rw [hlet] at h5
            exact Int.ofNat_inj.1 h5
          repeat first | refine opsStep ?_ | refine codeStep ?_ | refine drawStep ?_
          refine loopE_of (ι := {a : Nat // a ≤ (d.next[i]).2.length ∧ ∀ x ∈ (d.next[i]).2.take a, 0 ≤ x ∧ x < (d.accept.length : Int)})
            (fun a => (fr [(1, .ref 0 0 0), (3, .int .i64 d.accept.length), (4, .int .i64 i), (5, .int .i64 a.1)], [.cells 0 d.cells])) (fun a => (d.next[i]).2.length - a.1) ⟨0, by omega, by simp⟩ (Ent.fr' ⟨(by kernel_rfl), (by kernel_rfl), (by kernel_rfl), (by kernel_rfl), trivial⟩ (by kernel_rfl)) ?_
          rintro ⟨a, ha, hpa⟩
          repeat first | refine opsStep ?_ | refine codeStep ?_ | refine drawStep ?_
          refine guardE_of (by simp; omega) ?_
          repeat first | refine opsStep ?_ | refine codeStep ?_ | refine drawStep ?_
          refine optE_of (c := aIs (d.next[i]).1 (d.next[i]).2) (by simp [Value.cells, hia]) ?_
          repeat first | refine opsStep ?_ | refine codeStep ?_ | refine drawStep ?_
          refine decB_dec (fun hal => ?_) (fun hal => ?_)
          · have hal' : a < (d.next[i]).2.length := by have := hal; simp at this; omega
            repeat first | refine opsStep ?_ | refine codeStep ?_ | refine drawStep ?_
            refine guardE_of (by simp; omega) ?_
            repeat first | refine opsStep ?_ | refine codeStep ?_ | refine drawStep ?_
            refine optE_of (c := aIs (d.next[i]).1 (d.next[i]).2) (by simp [Value.cells, hia]) ?_
            repeat first | refine opsStep ?_ | refine codeStep ?_ | refine drawStep ?_
            refine guardE_of (by simp; omega) ?_
            repeat first | refine opsStep ?_ | refine codeStep ?_ | refine drawStep ?_
            refine optE_of (c := .int .i64 (d.next[i]).2[a]) (by simp [Value.cells, hal']) ?_
            repeat first | refine opsStep ?_ | refine codeStep ?_ | refine drawStep ?_
            refine decB_dec (fun hx0 => ?_) (fun hx0 => ?_)
            · repeat first | refine opsStep ?_ | refine codeStep ?_ | refine drawStep ?_
              exact finB (b' := false) (by kernel_rfl) (by rw [hbad (hbad2 _ (List.getElem_mem hal') (by omega))])
            · repeat first | refine opsStep ?_ | refine codeStep ?_ | refine drawStep ?_
              refine guardE_of (by simp; omega) ?_
              repeat first | refine opsStep ?_ | refine codeStep ?_ | refine drawStep ?_
              refine optE_of (c := aIs (d.next[i]).1 (d.next[i]).2) (by simp [Value.cells, hia]) ?_
              repeat first | refine opsStep ?_ | refine codeStep ?_ | refine drawStep ?_
              refine guardE_of (by simp; omega) ?_
              repeat first | refine opsStep ?_ | refine codeStep ?_ | refine drawStep ?_
              refine optE_of (c := .int .i64 (d.next[i]).2[a]) (by simp [Value.cells, hal']) ?_
              repeat first | refine opsStep ?_ | refine codeStep ?_ | refine drawStep ?_
              refine decB_dec (fun hx1 => ?_) (fun hx1 => ?_)
              · repeat first | refine opsStep ?_ | refine codeStep ?_ | refine drawStep ?_
                exact finB (b' := false) (by kernel_rfl) (by rw [hbad (hbad2 _ (List.getElem_mem hal') (by omega))])
              · repeat first | refine opsStep ?_ | refine codeStep ?_ | refine drawStep ?_
                refine ⟨⟨a + 1, by omega, ?_⟩, (by show (d.next[i]).2.length - (a + 1) < (d.next[i]).2.length - a; omega), Ent.fr' ⟨(by kernel_rfl), (by kernel_rfl), (by kernel_rfl), inc_slot (i := a) (by omega), trivial⟩ (by kernel_rfl)⟩
                rw [List.take_succ_eq_append_getElem hal']
                intro x hx
                rcases List.mem_append.1 hx with hx | hx
                · exact hpa x hx
                · rw [List.mem_singleton.1 hx]; omega
          · repeat first | refine opsStep ?_ | refine codeStep ?_ | refine drawStep ?_
            have : a = (d.next[i]).2.length := by have := hal; simp at this; omega
            refine ⟨⟨i + 1, by omega, ?_⟩, (by show d.next.length - (i + 1) < d.next.length - i; omega), Ent.fr' ⟨(by kernel_rfl), (by kernel_rfl), inc_slot (i := i) (by omega), trivial⟩ (by kernel_rfl)⟩
            rw [List.take_succ_eq_append_getElem hia]
            intro r hr'
            rcases List.mem_append.1 hr' with hr' | hr'
            · exact hpre r hr'
            · rw [List.mem_singleton.1 hr', rowOk, decide_eq_true hlen', Bool.true_and, List.all_eq_true]
              intro x hx
              rw [this, List.take_length] at hpa
              have := hpa x hx
              simp
              omega
      · repeat first | refine opsStep ?_ | refine codeStep ?_ | refine drawStep ?_
        have : i = d.next.length := by have := h; simp at this; omega
        exact finB (b' := true) (by kernel_rfl) (by
          subst this
          rw [List.take_length] at hpre
          rw [rightS, ht, decide_eq_true hn', List.all_eq_true.2 hpre]; simp)

end Tab
