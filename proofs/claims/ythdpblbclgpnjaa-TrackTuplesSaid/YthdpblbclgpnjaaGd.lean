/- Characters: what the model decodes, and what the reference reads. -/
import Derived.Test.YthdpblbclgpnjaaGr
namespace Tab
open Go Go.Proofs
set_option maxRecDepth 10000
set_option linter.unusedVariables false
set_option linter.unusedSimpArgs false
set_option linter.unusedSectionVars false

def bt (s : List UInt8) (i : Nat) : Nat := (s.getD i 0).toNat
def ctb (s : List UInt8) (i : Nat) : Bool := decide (i < s.length) && (bt s i / 64 == 2)
def okc (c : Nat) : Bool := Utf8.valid c

theorem bt_get (s : List UInt8) (i : Nat) : ((ByteArray.mk s.toArray).get! i).toNat = bt s i := by
  simp [ByteArray.get!, bt, List.getD_eq_getElem?_getD]
  rfl

theorem dec_def (s : List UInt8) (p : Nat) : dec s p =
    if bt s p < 0x80 then (bt s p, 1)
    else if (bt s p / 32 == 6 && ctb s (p + 1)) = true then
      let c := (bt s p % 32) * 64 + bt s (p + 1) % 64
      if c ≥ 0x80 then (c, 2) else (65533, 1)
    else if (bt s p / 16 == 14 && ctb s (p + 1) && ctb s (p + 2)) = true then
      let c := (bt s p % 16) * 4096 + (bt s (p + 1) % 64) * 64 + bt s (p + 2) % 64
      if (decide (c ≥ 0x800) && okc c) = true then (c, 3) else (65533, 1)
    else if (bt s p / 8 == 30 && ctb s (p + 1) && ctb s (p + 2) && ctb s (p + 3)) = true then
      let c := (bt s p % 8) * 262144 + (bt s (p + 1) % 64) * 4096 + (bt s (p + 2) % 64) * 64 + bt s (p + 3) % 64
      if (decide (c ≥ 0x10000) && okc c) = true then (c, 4) else (65533, 1)
    else (65533, 1) := by
  have hs : (ByteArray.mk s.toArray).size = s.length := by simp [ByteArray.size]
  simp only [dec, Utf8.decode, bt_get, hs, ctb, okc, Nat.add_zero, Utf8.runeError]
  simp only [decide_eq_true_eq, Bool.and_eq_true, ge_iff_le]

def accR (x0 : Int) (s : List UInt8) (p : Nat) : Nat → Int
  | 0 => x0
  | n + 1 => accR x0 s p n * 64 + bt s (p + n + 1) - 128

theorem bt_lt (s : List UInt8) (i : Nat) : bt s i < 256 := by
  unfold bt; exact UInt8.toNat_lt _
theorem ite_cond {α : Type} {q r : Prop} [Decidable q] [Decidable r] {x y x' : α} (h : q ↔ r) (e : q → x = x') : (if q then x else y) = (if r then x' else y) := by
  by_cases hq : q
  · rw [if_pos hq, if_pos (h.1 hq), e hq]
  · rw [if_neg hq, if_neg (fun k => hq (h.2 k))]

theorem fa1 {Q : Nat → Prop} : (∀ j, j < 2 - 1 → Q j) ↔ Q 0 :=
  ⟨fun h => h 0 (by omega), fun h j hj => by have : j = 0 := by omega
                                             subst this; exact h⟩
theorem fa2 {Q : Nat → Prop} : (∀ j, j < 3 - 1 → Q j) ↔ Q 0 ∧ Q 1 :=
  ⟨fun h => ⟨h 0 (by omega), h 1 (by omega)⟩, fun h j hj => by
    have : j = 0 ∨ j = 1 := by omega
    rcases this with rfl | rfl
    · exact h.1
    · exact h.2⟩
theorem fa3 {Q : Nat → Prop} : (∀ j, j < 4 - 1 → Q j) ↔ Q 0 ∧ Q 1 ∧ Q 2 :=
  ⟨fun h => ⟨h 0 (by omega), h 1 (by omega), h 2 (by omega)⟩, fun h j hj => by
    have : j = 0 ∨ j = 1 ∨ j = 2 := by omega
    rcases this with rfl | rfl | rfl
    · exact h.1
    · exact h.2.1
    · exact h.2.2⟩

theorem ctb_iff {s : List UInt8} {i : Nat} : ctb s i = true ↔ i < s.length ∧ bt s i / 64 = 2 := by simp [ctb]
theorem okc_iff {c : Nat} : okc c = true ↔ c < 55296 ∨ (57344 ≤ c ∧ c ≤ 1114111) := by
  simp only [okc, Utf8.valid, Bool.or_eq_true, Bool.and_eq_true, decide_eq_true_eq]; omega

theorem dec2 {s : List UInt8} {p : Nat} (h1 : 194 ≤ bt s p) (h2 : bt s p < 224) : dec s p = if (∀ j, j < 2 - 1 → ctb s (p + j + 1) = true) ∧ (128 : Int) ≤ accR ((bt s p : Int) - 192) s p (2 - 1) ∧ okc (accR ((bt s p : Int) - 192) s p (2 - 1)).toNat = true
    then ((accR ((bt s p : Int) - 192) s p (2 - 1)).toNat, 2) else (65533, 1) := by
  have hb := bt_lt s p
  have hb1 := bt_lt s (p + 1)
  simp only [fa1, accR, Nat.add_zero, okc_iff, ctb_iff]
  rw [dec_def, if_neg (by omega)]
  by_cases hc : p + 1 < s.length ∧ bt s (p + 1) / 64 = 2
  · rw [if_pos (by simp [ctb_iff, hc]; omega)]
    refine ite_cond (by simp only [hc, true_and, and_self]; omega) (fun _ => by simp only [Prod.mk.injEq, and_true]; omega)
  · rw [if_neg (by simp only [Bool.and_eq_true, ctb_iff]; exact fun k => hc k.2), if_neg (by simp; omega), if_neg (by simp; omega), if_neg (fun k => hc k.1)]

theorem dec3 {s : List UInt8} {p : Nat} (h1 : 224 ≤ bt s p) (h2 : bt s p < 240) : dec s p = if (∀ j, j < 3 - 1 → ctb s (p + j + 1) = true) ∧ (2048 : Int) ≤ accR ((bt s p : Int) - 224) s p (3 - 1) ∧ okc (accR ((bt s p : Int) - 224) s p (3 - 1)).toNat = true
    then ((accR ((bt s p : Int) - 224) s p (3 - 1)).toNat, 3) else (65533, 1) := by
  have hb := bt_lt s p
  have hb1 := bt_lt s (p + 1)
  have hb2 := bt_lt s (p + 2)
  simp only [fa2, accR, Nat.add_zero, okc_iff, ctb_iff, show p + 1 + 1 = p + 2 by omega]
  rw [dec_def, if_neg (by omega), if_neg (by simp; omega)]
  by_cases hc : (p + 1 < s.length ∧ bt s (p + 1) / 64 = 2) ∧ (p + 2 < s.length ∧ bt s (p + 2) / 64 = 2)
  · rw [if_pos (by simp [ctb_iff, hc]; omega)]
    refine ite_cond (by simp only [hc, true_and, and_self, Bool.and_eq_true, decide_eq_true_eq, okc_iff]; omega) (fun _ => by simp only [Prod.mk.injEq, and_true]; omega)
  · rw [if_neg (by simp only [Bool.and_eq_true, ctb_iff]; exact fun k => hc ⟨k.1.2, k.2⟩), if_neg (by simp; omega), if_neg (fun k => hc k.1)]

theorem dec4 {s : List UInt8} {p : Nat} (h1 : 240 ≤ bt s p) (h2 : bt s p < 245) : dec s p = if (∀ j, j < 4 - 1 → ctb s (p + j + 1) = true) ∧ (65536 : Int) ≤ accR ((bt s p : Int) - 240) s p (4 - 1) ∧ okc (accR ((bt s p : Int) - 240) s p (4 - 1)).toNat = true
    then ((accR ((bt s p : Int) - 240) s p (4 - 1)).toNat, 4) else (65533, 1) := by
  have hb := bt_lt s p
  have hb1 := bt_lt s (p + 1)
  have hb2 := bt_lt s (p + 2)
  have hb3 := bt_lt s (p + 3)
  simp only [fa3, accR, Nat.add_zero, okc_iff, ctb_iff, show p + 1 + 1 = p + 2 by omega, show p + 2 + 1 = p + 3 by omega]
  rw [dec_def, if_neg (by omega), if_neg (by simp; omega), if_neg (by simp; omega)]
  by_cases hc : (p + 1 < s.length ∧ bt s (p + 1) / 64 = 2) ∧ (p + 2 < s.length ∧ bt s (p + 2) / 64 = 2) ∧ (p + 3 < s.length ∧ bt s (p + 3) / 64 = 2)
  · rw [if_pos (by simp [ctb_iff, hc]; omega)]
    refine ite_cond (by simp only [hc, true_and, and_self, Bool.and_eq_true, decide_eq_true_eq, okc_iff]; omega) (fun _ => by simp only [Prod.mk.injEq, and_true]; omega)
  · rw [if_neg (by simp only [Bool.and_eq_true, ctb_iff]; exact fun k => hc ⟨k.1.1.2, k.1.2, k.2⟩), if_neg (fun k => hc k.1)]

theorem decX {s : List UInt8} {p : Nat} (h : (128 ≤ bt s p ∧ bt s p < 194) ∨ 245 ≤ bt s p) : dec s p = (65533, 1) := by
  have hb := bt_lt s p
  have hb1 := bt_lt s (p + 1)
  have hb2 := bt_lt s (p + 2)
  have hb3 := bt_lt s (p + 3)
  rw [dec_def, if_neg (by omega)]
  simp only [okc_iff, Bool.and_eq_true, decide_eq_true_eq, beq_iff_eq, ge_iff_le]
  split
  · split
    · omega
    · rfl
  · split
    · omega
    · split
      · split
        · omega
        · rfl
      · rfl

theorem bt_at {s : List UInt8} {i : Nat} (h : i < s.length) : (s[i].toNat) = bt s i := by
  simp [bt, List.getD_eq_getElem?_getD, h]

def okd (s : List UInt8) (p : Nat) : Bool := decide (dec s p ≠ (65533, 1))
theorem okd_eq (s : List UInt8) (p : Nat) : okd s p = decide (dec s p ≠ (65533, 1)) := rfl

theorem r04_Read (s : List UInt8) (p : Nat) (hp : p < s.length) (hl : s.length < 2^62) :
    Pure Try.prog 54 [.str s, .int .i64 p] (.tup [.int .i64 (dec s p).1, .int .i64 (dec s p).2, .bool (okd s p)]) := by
  rw [okd_eq]
  refine Pure.of_sw 92 Try.func54 rfl Try.ntmps54 (by kernel_rfl) (Nat.le_of_ble_eq_true (by kernel_rfl)) (by simp [closeds, AV.closed, aSs_closed, aIs_closed, aBs_closed, aRs_closed, aDen_closed]) (by simp [AV.closed, closeds, aSs_closed, aIs_closed, aBs_closed, aRs_closed, aDen_closed]) ?_; refine SW.of_vc ?_
  repeat first | refine opsStep ?_ | refine codeStep ?_ | refine drawStep ?_
  refine optE_of (c := s[p]) (by simp [hp]) ?_
  repeat first | refine opsStep ?_ | refine codeStep ?_ | refine drawStep ?_
  have hb := bt_lt s p
  rw [bt_at hp]
  have hw : IntKind.wrap .i64 (bt s p) = (bt s p : Int) := IntWalk.i64_in _ (by omega)
  have key : ∀ (w : Nat) (least x0 : Int), 2 ≤ w → w ≤ 4 → 0 ≤ x0 → x0 < 64 →
      (dec s p = if (∀ j, j < w - 1 → ctb s (p + j + 1) = true) ∧ least ≤ accR x0 s p (w - 1) ∧ okc (accR x0 s p (w - 1)).toNat = true then ((accR x0 s p (w - 1)).toNat, w) else (65533, 1)) →
      VCode Try.prog 92 (cSnd (cSnd (cSnd (cSnd (Try.f54.body.getD .skip))))) (fr [(0, .str s), (1, .int .i64 p), (7, .int .i64 x0), (8, .int .i64 w), (9, .int .i64 least)]) []
        (pureK Try.prog 92 Try.f54.results.toList (.tup [.int .i64 (dec s p).1, .int .i64 (dec s p).2, .bool (decide (dec s p ≠ (65533, 1)))])) := by
    intro w least x0 h2 h4 hx0 hx1 hdec
    have hsub : IntKind.wrap .i64 ((s.length : Int) - p) = s.length - p := IntWalk.i64_in _ (by omega)
    repeat first | refine opsStep ?_ | refine codeStep ?_ | refine drawStep ?_
    refine decB_split (fun h => ?_) (fun h => ?_)
    · repeat first | refine opsStep ?_ | refine codeStep ?_ | refine drawStep ?_
      have hd : dec s p = (65533, 1) := by
        rw [hdec, if_neg]
        rintro ⟨hc, _⟩
        have := hc (w - 2) (by omega)
        simp [ctb] at this
        simp [hsub] at h
        omega
      exact finV (v' := .tup [.int .i64 65533, .int .i64 1, .bool false]) (by kernel_rfl) (by rw [hd]; simp)
    · repeat first | refine opsStep ?_ | refine codeStep ?_ | refine drawStep ?_
      have hlen : p + w ≤ s.length := by simp [hsub] at h; omega
      refine loopE_of (ι := {i : Nat // 1 ≤ i ∧ i ≤ w ∧ (∀ j, j < i - 1 → ctb s (p + j + 1) = true) ∧ 0 ≤ accR x0 s p (i - 1) ∧ accR x0 s p (i - 1) < 64 ^ i})
        (fun i => (fr [(0, .str s), (1, .int .i64 p), (7, .int .i64 (accR x0 s p (i.1 - 1))), (8, .int .i64 w), (9, .int .i64 least), (10, .int .i64 i.1)], [])) (fun i => w - i.1)
        ⟨1, by omega, by omega, by intro j hj; omega, by simpa [accR] using hx0, by simpa [accR] using hx1⟩ (Ent.fr' ⟨(by kernel_rfl), (by kernel_rfl), (by kernel_rfl), (by kernel_rfl), (by kernel_rfl), (by kernel_rfl), trivial⟩ (by kernel_rfl)) ?_
      rintro ⟨i, hi1, hi2, hct, hlo, hhi⟩
      repeat first | refine opsStep ?_ | refine codeStep ?_ | refine drawStep ?_
      refine decB_split (fun h => ?_) (fun h => ?_)
      · have hiw : i < w := by simp at h; omega
        have hwp : IntKind.wrap .i64 ((p : Int) + i) = p + i := IntWalk.i64_in _ (by omega)
        have hpi : p + i < s.length := by omega
        have hb1 := bt_lt s (p + i)
        have hw1 : IntKind.wrap .i64 (bt s (p + i)) = (bt s (p + i) : Int) := IntWalk.i64_in _ (by omega)
        have hbad : (bt s (p + i) < 128 ∨ 191 < bt s (p + i)) → dec s p = (65533, 1) := by
          intro hb
          rw [hdec, if_neg]
          rintro ⟨hc, _⟩
          have := hc (i - 1) (by omega)
          rw [show p + (i - 1) + 1 = p + i by omega] at this
          simp [ctb] at this
          omega
        repeat first | refine opsStep ?_ | refine codeStep ?_ | refine drawStep ?_
        refine guardE_of (by rw [hwp]; omega) ?_
        repeat first | refine opsStep ?_ | refine codeStep ?_ | refine drawStep ?_
        refine optE_of (c := s[p + i]) (by rw [hwp]; simp [← Int.natCast_add, hpi]) ?_
        rw [bt_at hpi]
        repeat first | refine opsStep ?_ | refine codeStep ?_ | refine drawStep ?_
        refine decB_split (fun h => ?_) (fun h => ?_)
        · repeat first | refine opsStep ?_ | refine codeStep ?_ | refine drawStep ?_
          exact finV (v' := .tup [.int .i64 65533, .int .i64 1, .bool false]) (by kernel_rfl) (by rw [hbad (by simp [hw1] at h; omega)]; simp)
        · repeat first | refine opsStep ?_ | refine codeStep ?_ | refine drawStep ?_
          refine decB_split (fun h => ?_) (fun h => ?_)
          · repeat first | refine opsStep ?_ | refine codeStep ?_ | refine drawStep ?_
            exact finV (v' := .tup [.int .i64 65533, .int .i64 1, .bool false]) (by kernel_rfl) (by rw [hbad (by simp [hw1] at h; omega)]; simp)
          · repeat first | refine opsStep ?_ | refine codeStep ?_ | refine drawStep ?_
            rename_i h0
            simp [hw1] at h h0
            have hpow : 64 ^ i ≤ 64 ^ 3 := Nat.pow_le_pow_right (by omega) (by omega)
            have hacc : accR x0 s p (i + 1 - 1) = accR x0 s p (i - 1) * 64 + bt s (p + i) - 128 := by
              obtain ⟨i, rfl⟩ : ∃ k, i = k + 1 := ⟨i - 1, by omega⟩
              rfl
            have hhi' : accR x0 s p (i - 1) < ((64 ^ i : Nat) : Int) := by simpa using hhi
            have h1 : IntKind.wrap .i64 (accR x0 s p (i - 1) * 64) = accR x0 s p (i - 1) * 64 := IntWalk.i64_in _ (by omega)
            have h2 : IntKind.wrap .i64 (accR x0 s p (i - 1) * 64 + bt s (p + i)) = accR x0 s p (i - 1) * 64 + bt s (p + i) := IntWalk.i64_in _ (by omega)
            have h3 : IntKind.wrap .i64 (accR x0 s p (i - 1) * 64 + bt s (p + i) - 128) = accR x0 s p (i - 1) * 64 + bt s (p + i) - 128 := IntWalk.i64_in _ (by omega)
            refine ⟨⟨i + 1, by omega, by omega, ?_, by rw [hacc]; omega, ?_⟩, (by show w - (i + 1) < w - i; omega), Ent.fr' ⟨(by kernel_rfl), (by kernel_rfl), ?_, (by kernel_rfl), (by kernel_rfl), inc_slot (i := i) (by omega), trivial⟩ (by kernel_rfl)⟩
            · intro j hj
              by_cases e : j < i - 1
              · exact hct j e
              · rw [show p + j + 1 = p + i by omega]
                simp [ctb]
                omega
            · rw [hacc]
              have : ((64 ^ (i + 1) : Nat) : Int) = 64 * ((64 ^ i : Nat) : Int) := by rw [Nat.pow_succ]; push_cast; omega
              have e : ((64 : Int) ^ (i + 1)) = ((64 ^ (i + 1) : Nat) : Int) := by push_cast; rfl
              rw [e]; omega
            · show AV.int .i64 (IntKind.wrap .i64 (IntKind.wrap .i64 (IntKind.wrap .i64 (accR x0 s p (i - 1) * 64) + IntKind.wrap .i64 (bt s (p + i))) - 128)) = _
              rw [h1, hw1, h2, h3, hacc]
      · have hiw : i = w := by simp at h; omega
        subst hiw
        have hdec' : dec s p = if least ≤ accR x0 s p (i - 1) ∧ accR x0 s p (i - 1) ≤ 1114111 ∧ ¬(55296 ≤ accR x0 s p (i - 1) ∧ accR x0 s p (i - 1) ≤ 57343) then ((accR x0 s p (i - 1)).toNat, i) else (65533, 1) := by
          rw [hdec]
          have e : ∀ (q r : Prop) [Decidable q] [Decidable r] (x y : Nat × Nat), (q ↔ r) → (if q then x else y) = (if r then x else y) := fun q r _ _ x y h => by
            by_cases hq : q
            · rw [if_pos hq, if_pos (h.1 hq)]
            · rw [if_neg hq, if_neg (fun k => hq (h.2 k))]
          apply e
          simp only [okc, Utf8.valid, Bool.or_eq_true, Bool.and_eq_true, decide_eq_true_eq]
          constructor
          · rintro ⟨_, h1, h2⟩; omega
          · rintro ⟨h1, h2, h3⟩; exact ⟨hct, h1, by omega⟩
        have hA : ∃ A, accR x0 s p (i - 1) = A := ⟨_, rfl⟩
        repeat' first | refine opsStep ?_ | refine codeStep ?_ | refine decB_split (fun h => ?_) (fun h => ?_)
        all_goals first
          | exact finV (v' := .tup [.int .i64 65533, .int .i64 1, .bool false]) (by kernel_rfl) (by rw [hdec', if_neg (by simp at *; omega)]; simp)
          | exact finV (v' := .tup [.int .i64 (accR x0 s p (i - 1)), .int .i64 i, .bool true]) (by kernel_rfl) (by rw [hdec', if_pos (by simp at *; omega)]; simp; omega)
  refine decB_split (fun h => ?_) (fun h => ?_)
  · repeat first | refine opsStep ?_ | refine codeStep ?_ | refine drawStep ?_
    exact finV (v' := .tup [.int .i64 (IntKind.wrap .i64 (bt s p)), .int .i64 1, .bool true]) (by kernel_rfl) (by simp [hw] at h; rw [dec_def, if_pos (by omega)]; simp [hw]; omega)
  · have hn : 128 ≤ bt s p := by simp [hw] at h; omega
    have cw : ∀ k : Nat, k ≤ 240 → IntKind.wrap .i64 ((bt s p : Int) - k) = bt s p - k := fun k hk => IntWalk.i64_in _ (by omega)
    have nb : ∀ {b : Bool}, b = false → b ≠ true := fun h => by simp [h]
    repeat first | refine opsStep ?_ | refine codeStep ?_ | refine drawStep ?_
    refine decB_dec (fun h1 => ?_) (fun h1 => ?_)
    · rw [hw] at h1
      repeat first | refine opsStep ?_ | refine codeStep ?_ | refine drawStep ?_
      refine decB_dec (fun h2 => ?_) (fun h2 => ?_)
      · rw [hw] at h2
        repeat first | refine VCode.ent ?_ (key 2 128 ((bt s p : Int) - 192) (by omega) (by omega) (by omega) (by omega) (dec2 (by omega) (by omega))) | refine opsStep ?_ | refine codeStep ?_
        exact Ent.fr' ⟨(by kernel_rfl), (by kernel_rfl), (congrArg (AV.int .i64) ((congrArg (fun z => IntKind.wrap .i64 (z - 192)) hw).trans (cw 192 (by omega))) : _), (by kernel_rfl), (by kernel_rfl), trivial⟩ (by kernel_rfl)
      · rw [hw] at h2
        repeat first | refine opsStep ?_ | refine codeStep ?_ | refine drawStep ?_
        refine decB_dec (fun h3 => ?_) (fun h3 => ?_)
        · rw [hw] at h3
          repeat first | refine opsStep ?_ | refine codeStep ?_ | refine drawStep ?_
          refine decB_dec (fun h4 => ?_) (fun h4 => ?_)
          · rw [hw] at h4
            repeat first | refine VCode.ent ?_ (key 3 2048 ((bt s p : Int) - 224) (by omega) (by omega) (by omega) (by omega) (dec3 (by omega) (by omega))) | refine opsStep ?_ | refine codeStep ?_
            exact Ent.fr' ⟨(by kernel_rfl), (by kernel_rfl), (congrArg (AV.int .i64) ((congrArg (fun z => IntKind.wrap .i64 (z - 224)) hw).trans (cw 224 (by omega))) : _), (by kernel_rfl), (by kernel_rfl), trivial⟩ (by kernel_rfl)
          · rw [hw] at h4
            repeat first | refine opsStep ?_ | refine codeStep ?_ | refine drawStep ?_
            refine decB_dec (fun h5 => ?_) (fun h5 => ?_)
            · rw [hw] at h5
              repeat first | refine opsStep ?_ | refine codeStep ?_ | refine drawStep ?_
              refine decB_dec (fun h6 => ?_) (fun h6 => ?_)
              · rw [hw] at h6
                repeat first | refine VCode.ent ?_ (key 4 65536 ((bt s p : Int) - 240) (by omega) (by omega) (by omega) (by omega) (dec4 (by omega) (by omega))) | refine opsStep ?_ | refine codeStep ?_
                exact Ent.fr' ⟨(by kernel_rfl), (by kernel_rfl), (congrArg (AV.int .i64) ((congrArg (fun z => IntKind.wrap .i64 (z - 240)) hw).trans (cw 240 (by omega))) : _), (by kernel_rfl), (by kernel_rfl), trivial⟩ (by kernel_rfl)
              · rw [hw] at h6
                repeat first | refine opsStep ?_ | refine codeStep ?_ | refine drawStep ?_
                exact finV (v' := .tup [.int .i64 65533, .int .i64 1, .bool false]) (by kernel_rfl) (by rw [decX (by omega)]; simp)
            · exact absurd (hw ▸ h5) (by omega)
        · exact absurd (hw ▸ h3) (by omega)
    · rw [hw] at h1
      repeat first | refine opsStep ?_ | refine codeStep ?_ | refine drawStep ?_
      refine decB_dec (fun h3 => ?_) (fun h3 => ?_)
      · exact absurd (hw ▸ h3) (by omega)
      · repeat first | refine opsStep ?_ | refine codeStep ?_ | refine drawStep ?_
        refine decB_dec (fun h5 => ?_) (fun h5 => ?_)
        · exact absurd (hw ▸ h5) (by omega)
        · repeat first | refine opsStep ?_ | refine codeStep ?_ | refine drawStep ?_
          exact finV (v' := .tup [.int .i64 65533, .int .i64 1, .bool false]) (by kernel_rfl) (by rw [decX (by omega)]; simp)

attribute [irreducible] okd
end Tab
