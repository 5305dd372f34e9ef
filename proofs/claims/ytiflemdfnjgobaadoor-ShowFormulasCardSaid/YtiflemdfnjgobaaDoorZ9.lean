/- Lemmas for this claim: part 9. No condition. -/
import Derived.Test.YtiflemdfnjgobaaDoorZ8
import Derived.Test.YtiflemdfnjgobaaDoorProg
set_option linter.unusedVariables false
set_option linter.unusedSimpArgs false
set_option linter.unusedSectionVars false
/- What is asked of package-level variables: the powers of ten. -/
namespace Tab
open Go

def powZ : List Int := (List.range 20).map fun k => ((10 ^ k : Nat) : Int)
def powA : List AV := powZ.map (.int .u64)
abbrev junkGlobs : Globs := ⟨fun _ => .junk, fun _ _ _ _ _ _ _ => by simp only [VRel]⟩
theorem powA_closed : closeds powA := (@closeds_iff junkGlobs _).2 fun a h => by
  obtain ⟨z, _, rfl⟩ := List.mem_map.1 h
  simp only [AV.closed]
def gvV : Nat → AV
  | 0 => .tref powA
  | _ => .junk
theorem gvV_closed : ∀ g, (gvV g).closed
  | 0 => by show (AV.tref _).closed; simp only [AV.closed]; exact powA_closed
  | _ + 1 => by show AV.junk.closed; simp only [AV.closed]
instance tabGlobs : Globs := ⟨gvV, fun g _ _ _ _ v h => @Tab.AV.closed_rel junkGlobs _ _ _ _ _ v (gvV_closed g) h⟩
theorem tref_of {W : World} {g : Nat} {k : IntKind} {l : List Int} (hl : l ≠ []) (h : ∀ (i : Nat) (z : Int), l[i]? = some z → W.cell? ⟨g, i, none⟩ = some (.int k z)) : VRel m₀ (fun cb => cb < W.heap.size) W (.tref (l.map (.int k))) (.pointer (some ⟨g, 0, none⟩)) := by
  have hlt : g < W.heap.size := by
    cases l with
    | nil => exact absurd rfl hl
    | cons z l =>
      have := h 0 z rfl
      by_cases hg : g < W.heap.size
      · exact hg
      · have e : W.heap[g]? = none := by simp; omega
        simp [World.cell?, e] at this
  simp only [VRel]
  refine ⟨g, 0, rfl, CsRel_iff.2 fun i a ha => ⟨hlt, ?_⟩⟩
  rw [List.getElem?_map] at ha
  obtain ⟨z, hz, rfl⟩ := Option.map_eq_some_iff.1 ha
  refine ⟨.int k z, by rw [Nat.zero_add]; exact h i z hz, rfl, by simp only [VRel]⟩

end Tab

/- Names: which characters they are made of. -/
namespace Tab
open Go Go.Proofs
set_option maxRecDepth 10000
set_option linter.unusedVariables false
set_option linter.unusedSimpArgs false
set_option linter.unusedSectionVars false

def startR (r : Int) : Bool := (decide (65 ≤ r) && decide (r ≤ 90)) || (decide (97 ≤ r) && decide (r ≤ 122)) || decide (r = 95) || (decide (913 ≤ r) && decide (r ≤ 929)) || (decide (931 ≤ r) && decide (r ≤ 937)) || (decide (945 ≤ r) && decide (r ≤ 969))
def restR (r : Int) : Bool := startR r || (decide (48 ≤ r) && decide (r ≤ 57)) || decide (r = 8242) || (decide (8320 ≤ r) && decide (r ≤ 8329))
def resWords : List (List UInt8) := [[97, 110, 100], [111, 114], [110, 111, 116], [101, 120], [97, 108, 108], [109, 111, 100], [116, 114, 117, 101], [102, 97, 108, 115, 101]]
def resS (s : List UInt8) : Bool := decide (s ∈ resWords)

theorem glyph_Start (r : Int) : Pure Tryd.prog 112 [.int .i32 r] (.bool (startR r)) := by
  refine Pure.of_sw 37 Tryd.func112 rfl Tryd.ntmps112 (by kernel_rfl) (Nat.le_of_ble_eq_true (by kernel_rfl)) (by simp [closeds, AV.closed, aSs_closed, aIs_closed, aBs_closed, aRs_closed, aDen_closed]) (by simp [AV.closed, closeds, aSs_closed, aIs_closed, aBs_closed, aRs_closed, aDen_closed]) ?_; refine SW.of_vc ?_
  repeat' first | refine opsStep ?_ | refine codeStep ?_ | refine decB_split (fun h => ?_) (fun h => ?_)
  all_goals exact finB rfl (by simp at *; simp [startR]; omega)

theorem glyph_Rest (r : Int) : Pure Tryd.prog 113 [.int .i32 r] (.bool (restR r)) := by
  refine Pure.of_sw 25 Tryd.func113 rfl Tryd.ntmps113 (by kernel_rfl) (Nat.le_of_ble_eq_true (by kernel_rfl)) (by simp [closeds, AV.closed, aSs_closed, aIs_closed, aBs_closed, aRs_closed, aDen_closed]) (by simp [AV.closed, closeds, aSs_closed, aIs_closed, aBs_closed, aRs_closed, aDen_closed]) ?_; refine SW.of_vc ?_
  repeat first | refine opsStep ?_ | refine codeStep ?_ | refine drawStep ?_
  refine callP (glyph_Start r) ?_
  repeat first | refine opsStep ?_ | refine codeStep ?_ | refine drawStep ?_
  refine decB_split (fun h => ?_) (fun h => ?_)
  · repeat first | refine opsStep ?_ | refine codeStep ?_ | refine drawStep ?_
    exact finB rfl (by simp [restR, h])
  · repeat' first | refine opsStep ?_ | refine codeStep ?_ | refine decB_split (fun h => ?_) (fun h => ?_)
    all_goals exact finB rfl (by simp at *; simp [restR, *]; try omega)

theorem glyph_Reserved (s : List UInt8) : Pure Tryd.prog 131 [.str s] (.bool (resS s)) := by
  refine Pure.of_sw 13 Tryd.func131 rfl Tryd.ntmps131 (by kernel_rfl) (Nat.le_of_ble_eq_true (by kernel_rfl)) (by simp [closeds, AV.closed, aSs_closed, aIs_closed, aBs_closed, aRs_closed, aDen_closed]) (by simp [AV.closed, closeds, aSs_closed, aIs_closed, aBs_closed, aRs_closed, aDen_closed]) ?_; refine SW.of_vc ?_
  repeat first | refine opsStep ?_ | refine codeStep ?_ | refine drawStep ?_
  repeat' first | refine opsStep ?_ | refine codeStep ?_ | refine decB_split (fun h => ?_) (fun h => ?_)
  all_goals exact finB rfl (by simp_all [resS, resWords])

attribute [irreducible] startR restR resS
end Tab

/- Names as the reference reads them. -/
namespace Tab
open Go Go.Proofs
set_option maxRecDepth 10000
set_option linter.unusedVariables false
set_option linter.unusedSimpArgs false
set_option linter.unusedSectionVars false

def inR (r : Int) : List Int → Bool
  | a :: b :: l => (decide (a ≤ r) && decide (r ≤ b)) || inR r l
  | _ => false

theorem inR_short {r : Int} {l : List Int} (h : l.length ≤ 1) : inR r l = false := by
  match l, h with
  | [], _ => rfl
  | [_], _ => rfl

theorem inR_drop {r : Int} {l : List Int} {i : Nat} (h : i + 1 < l.length) : inR r (l.drop i) = ((decide (l[i] ≤ r) && decide (r ≤ l[i + 1])) || inR r (l.drop (i + 2))) := by
  rw [List.drop_eq_getElem_cons (by omega), List.drop_eq_getElem_cons (by omega)]
  rfl

theorem r04_within (k : SK) (r : Int) (l : List Int) (hl : l.length < 2^62) : Pure Tryd.prog 121 [.int .i64 r, aIs k l] (.bool (inR r l)) := by
  refine Pure.of_sw 28 Tryd.func121 rfl Tryd.ntmps121 (by kernel_rfl) (Nat.le_of_ble_eq_true (by kernel_rfl)) (by simp [closeds, AV.closed, aSs_closed, aIs_closed, aBs_closed, aRs_closed, aDen_closed]) (by simp [AV.closed, closeds, aSs_closed, aIs_closed, aBs_closed, aRs_closed, aDen_closed]) ?_; refine SW.of_vc ?_
  repeat first | refine opsStep ?_ | refine codeStep ?_ | refine drawStep ?_
  refine loopE_of (ι := {i : Nat // i ≤ l.length + 1 ∧ inR r l = inR r (l.drop i)}) (fun i => (fr [(0, .int .i64 r), (1, aIs k l), (5, .int .i64 i.1)], [])) (fun i => l.length + 2 - i.1) ⟨0, by omega, by simp⟩ (Ent.fr ⟨rfl, rfl, rfl, trivial⟩) ?_
  rintro ⟨i, hi, hpre⟩
  have hw : IntKind.wrap .i64 ((i : Int) + 1) = i + 1 := IntWalk.i64_in _ (by omega)
  repeat first | refine opsStep ?_ | refine codeStep ?_ | refine drawStep ?_
  refine decB_split (fun h => ?_) (fun h => ?_)
  · have hi1 : i + 1 < l.length := by simp [hw] at h; omega
    repeat first | refine opsStep ?_ | refine codeStep ?_ | refine drawStep ?_
    refine guardE_of (by simp; omega) ?_
    repeat first | refine opsStep ?_ | refine codeStep ?_ | refine drawStep ?_
    refine optE_of (c := .int .i64 l[i]) (by simp [Value.cells, show i < l.length by omega]) ?_
    repeat first | refine opsStep ?_ | refine codeStep ?_ | refine drawStep ?_
    have hd := inR_drop (r := r) hi1
    refine decB_split (fun h => ?_) (fun h => ?_)
    · repeat first | refine opsStep ?_ | refine codeStep ?_ | refine drawStep ?_
      refine guardE_of (by simp [hw]; omega) ?_
      repeat first | refine opsStep ?_ | refine codeStep ?_ | refine drawStep ?_
      refine optE_of (c := .int .i64 l[i+1]) (by simp [Value.cells, hw, hi1]) ?_
      repeat first | refine opsStep ?_ | refine codeStep ?_ | refine drawStep ?_
      refine decB_split (fun h => ?_) (fun h => ?_)
      · repeat first | refine opsStep ?_ | refine codeStep ?_ | refine drawStep ?_
        exact finB rfl (by simp at *; rw [hpre, hd]; simp [*])
      · repeat first | refine opsStep ?_ | refine codeStep ?_ | refine drawStep ?_
        refine ⟨⟨i + 2, by omega, by rw [hpre, hd]; simp_all; try (intros; omega)⟩, (by show l.length + 2 - (i + 2) < l.length + 2 - i; omega), Ent.fr' ⟨(by kernel_rfl), (by kernel_rfl), (congrArg (AV.int .i64) (IntWalk.i64_in ((i : Int) + 2) (by omega)) : _), trivial⟩ (by kernel_rfl)⟩
    · repeat first | refine opsStep ?_ | refine codeStep ?_ | refine drawStep ?_
      refine ⟨⟨i + 2, by omega, by rw [hpre, hd]; simp_all; try (intros; omega)⟩, (by show l.length + 2 - (i + 2) < l.length + 2 - i; omega), Ent.fr' ⟨(by kernel_rfl), (by kernel_rfl), (congrArg (AV.int .i64) (IntWalk.i64_in ((i : Int) + 2) (by omega)) : _), trivial⟩ (by kernel_rfl)⟩
  · repeat first | refine opsStep ?_ | refine codeStep ?_ | refine drawStep ?_
    exact finB rfl (by rw [hpre, inR_short]; simp [hw] at h; simp; omega)

theorem r04_Start (r : Int) : Pure Tryd.prog 91 [.int .i64 r] (.bool (startR r)) := by
  refine Pure.of_sw 6 Tryd.func91 rfl Tryd.ntmps91 (by kernel_rfl) (Nat.le_of_ble_eq_true (by kernel_rfl)) (by simp [closeds, AV.closed, aSs_closed, aIs_closed, aBs_closed, aRs_closed, aDen_closed]) (by simp [AV.closed, closeds, aSs_closed, aIs_closed, aBs_closed, aRs_closed, aDen_closed]) ?_; refine SW.of_vc ?_
  repeat first | refine opsStep ?_ | refine codeStep ?_ | refine drawStep ?_
  refine optX_of (c := [65, 90, 97, 122, 95, 95, 0x391, 0x3a1, 0x3a3, 0x3a9, 0x3b1, 0x3c9].map (.int .i64)) (by kernel_rfl) ?_
  repeat first | refine opsStep ?_ | refine codeStep ?_ | refine drawStep ?_
  refine callB (r04_within .any r [65, 90, 97, 122, 95, 95, 0x391, 0x3a1, 0x3a3, 0x3a9, 0x3b1, 0x3c9] (by simp)) rfl (.cons (.refl _) (.cons (.whole (by kernel_rfl) (by kernel_rfl)) .nil)) ?_
  repeat first | refine opsStep ?_ | refine codeStep ?_ | refine drawStep ?_
  exact finB rfl (by rw [Bool.eq_iff_iff]; simp [inR, startR]; omega)

theorem r04_Rest (r : Int) : Pure Tryd.prog 110 [.int .i64 r] (.bool (restR r)) := by
  refine Pure.of_sw 10 Tryd.func110 rfl Tryd.ntmps110 (by kernel_rfl) (Nat.le_of_ble_eq_true (by kernel_rfl)) (by simp [closeds, AV.closed, aSs_closed, aIs_closed, aBs_closed, aRs_closed, aDen_closed]) (by simp [AV.closed, closeds, aSs_closed, aIs_closed, aBs_closed, aRs_closed, aDen_closed]) ?_; refine SW.of_vc ?_
  repeat first | refine opsStep ?_ | refine codeStep ?_ | refine drawStep ?_
  refine callP (r04_Start r) ?_
  repeat first | refine opsStep ?_ | refine codeStep ?_ | refine drawStep ?_
  refine decB_split (fun h => ?_) (fun h => ?_)
  · repeat first | refine opsStep ?_ | refine codeStep ?_ | refine drawStep ?_
    exact finB rfl (by simp [restR, h])
  · repeat first | refine opsStep ?_ | refine codeStep ?_ | refine drawStep ?_
    refine optX_of (c := [48, 57, 0x2032, 0x2032, 0x2080, 0x2089].map (.int .i64)) (by kernel_rfl) ?_
    repeat first | refine opsStep ?_ | refine codeStep ?_ | refine drawStep ?_
    refine callB (r04_within .any r [48, 57, 0x2032, 0x2032, 0x2080, 0x2089] (by simp)) rfl (.cons (.refl _) (.cons (.whole (by kernel_rfl) (by kernel_rfl)) .nil)) ?_
    repeat first | refine opsStep ?_ | refine codeStep ?_ | refine drawStep ?_
    exact finB rfl (by rw [Bool.eq_iff_iff]; simp [inR, restR, h]; omega)

theorem r04_Reserved (s : List UInt8) : Pure Tryd.prog 93 [.str s] (.bool (resS s)) := by
  refine Pure.of_sw 18 Tryd.func93 rfl Tryd.ntmps93 (by kernel_rfl) (Nat.le_of_ble_eq_true (by kernel_rfl)) (by simp [closeds, AV.closed, aSs_closed, aIs_closed, aBs_closed, aRs_closed, aDen_closed]) (by simp [AV.closed, closeds, aSs_closed, aIs_closed, aBs_closed, aRs_closed, aDen_closed]) ?_; refine SW.of_vc ?_
  repeat first | refine opsStep ?_ | refine codeStep ?_ | refine drawStep ?_
  refine optX_of (c := resWords.map .str) (by kernel_rfl) ?_
  repeat first | refine opsStep ?_ | refine codeStep ?_ | refine drawStep ?_
  refine loopE_of (ι := {i : Nat // i ≤ 8 ∧ s ∉ resWords.take i}) (fun i => (fr [(0, .str s), (3, .hs 0 0 0 8 1), (4, .int .i64 i.1)], [.cells 0 (resWords.map .str)])) (fun i => 9 - i.1) ⟨0, by omega, by simp⟩ (Ent.fr' ⟨rfl, rfl, rfl, trivial⟩ (by kernel_rfl)) ?_
  rintro ⟨i, hi, hpre⟩
  repeat first | refine opsStep ?_ | refine codeStep ?_ | refine drawStep ?_
  refine decB_split (fun h => ?_) (fun h => ?_)
  · have hi1 : i < 8 := by simp at h; omega
    have hi2 : i < resWords.length := by simpa [resWords] using hi1
    repeat first | refine opsStep ?_ | refine codeStep ?_ | refine drawStep ?_
    refine guardE_of (by simp; omega) ?_
    repeat first | refine opsStep ?_ | refine codeStep ?_ | refine drawStep ?_
    refine optE_of (c := .str resWords[i]) (by simp [Value.cells, hi2]) ?_
    repeat first | refine opsStep ?_ | refine codeStep ?_ | refine drawStep ?_
    have ht : resWords.take (i + 1) = resWords.take i ++ [resWords[i]] := List.take_succ_eq_append_getElem (by simpa [resWords] using hi1)
    refine decB_split (fun h => ?_) (fun h => ?_)
    · repeat first | refine opsStep ?_ | refine codeStep ?_ | refine drawStep ?_
      exact finB rfl (by simp at h; subst h; simp only [resS]; exact (decide_eq_true (List.getElem_mem hi2)).symm)
    · repeat first | refine opsStep ?_ | refine codeStep ?_ | refine drawStep ?_
      refine ⟨⟨i + 1, by omega, fun e => (List.mem_append.1 (ht ▸ e)).elim hpre (fun e => by simp at h; exact h (List.mem_singleton.1 e).symm)⟩, (by show 9 - (i + 1) < 9 - i; omega), Ent.fr' ⟨(by kernel_rfl), (by kernel_rfl), inc_slot (i := i) (by omega), trivial⟩ (by kernel_rfl)⟩
  · repeat first | refine opsStep ?_ | refine codeStep ?_ | refine drawStep ?_
    have : i = 8 := by simp at h; omega
    subst this
    exact finB rfl (by simp [resS]; exact hpre)

end Tab

/- Characters: what the model decodes, and what the reference reads. -/
namespace Tab
open Go Go.Proofs
set_option maxRecDepth 10000
set_option linter.unusedVariables false
set_option linter.unusedSimpArgs false
set_option linter.unusedSectionVars false

def bt (s : List UInt8) (i : Nat) : Nat := (s.getD i 0).toNat
def ctb (s : List UInt8) (i : Nat) : Bool := decide (i < s.length) && (bt s i / 64 == 2)
def okc (c : Nat) : Bool := Utf8.valid c

theorem bt_get (s : List UInt8) (i : Nat) : ((ByteArray.mk s.toArray).get! i).toNat = bt s i := by
  simp [ByteArray.get!, bt, List.getD_eq_getElem?_getD]
  rfl

theorem dec_def (s : List UInt8) (p : Nat) : dec s p =
    if bt s p < 0x80 then (bt s p, 1)
    else if (bt s p / 32 == 6 && ctb s (p + 1)) = true then
      let c := (bt s p % 32) * 64 + bt s (p + 1) % 64
      if c ≥ 0x80 then (c, 2) else (65533, 1)
    else if (bt s p / 16 == 14 && ctb s (p + 1) && ctb s (p + 2)) = true then
      let c := (bt s p % 16) * 4096 + (bt s (p + 1) % 64) * 64 + bt s (p + 2) % 64
      if (decide (c ≥ 0x800) && okc c) = true then (c, 3) else (65533, 1)
    else if (bt s p / 8 == 30 && ctb s (p + 1) && ctb s (p + 2) && ctb s (p + 3)) = true then
      let c := (bt s p % 8) * 262144 + (bt s (p + 1) % 64) * 4096 + (bt s (p + 2) % 64) * 64 + bt s (p + 3) % 64
      if (decide (c ≥ 0x10000) && okc c) = true then (c, 4) else (65533, 1)
    else (65533, 1) := by
  have hs : (ByteArray.mk s.toArray).size = s.length := by simp [ByteArray.size]
  simp only [dec, Utf8.decode, bt_get, hs, ctb, okc, Nat.add_zero, Utf8.runeError]
  simp only [decide_eq_true_eq, Bool.and_eq_true, ge_iff_le]

def accR (x0 : Int) (s : List UInt8) (p : Nat) : Nat → Int
  | 0 => x0
  | n + 1 => accR x0 s p n * 64 + bt s (p + n + 1) - 128

theorem bt_lt (s : List UInt8) (i : Nat) : bt s i < 256 := by
  unfold bt; exact UInt8.toNat_lt _
theorem ite_cond {α : Type} {q r : Prop} [Decidable q] [Decidable r] {x y x' : α} (h : q ↔ r) (e : q → x = x') : (if q then x else y) = (if r then x' else y) := by
  by_cases hq : q
  · rw [if_pos hq, if_pos (h.1 hq), e hq]
  · rw [if_neg hq, if_neg (fun k => hq (h.2 k))]

theorem fa1 {Q : Nat → Prop} : (∀ j, j < 2 - 1 → Q j) ↔ Q 0 :=
  ⟨fun h => h 0 (by omega), fun h j hj => by have : j = 0 := by omega
                                             subst this; exact h⟩
theorem fa2 {Q : Nat → Prop} : (∀ j, j < 3 - 1 → Q j) ↔ Q 0 ∧ Q 1 :=
  ⟨fun h => ⟨h 0 (by omega), h 1 (by omega)⟩, fun h j hj => by
    have : j = 0 ∨ j = 1 := by omega
    rcases this with rfl | rfl
    · exact h.1
    · exact h.2⟩
theorem fa3 {Q : Nat → Prop} : (∀ j, j < 4 - 1 → Q j) ↔ Q 0 ∧ Q 1 ∧ Q 2 :=
  ⟨fun h => ⟨h 0 (by omega), h 1 (by omega), h 2 (by omega)⟩, fun h j hj => by
    have : j = 0 ∨ j = 1 ∨ j = 2 := by omega
    rcases this with rfl | rfl | rfl
    · exact h.1
    · exact h.2.1
    · exact h.2.2⟩

theorem ctb_iff {s : List UInt8} {i : Nat} : ctb s i = true ↔ i < s.length ∧ bt s i / 64 = 2 := by simp [ctb]
theorem okc_iff {c : Nat} : okc c = true ↔ c < 55296 ∨ (57344 ≤ c ∧ c ≤ 1114111) := by
  simp only [okc, Utf8.valid, Bool.or_eq_true, Bool.and_eq_true, decide_eq_true_eq]; omega

theorem dec2 {s : List UInt8} {p : Nat} (h1 : 194 ≤ bt s p) (h2 : bt s p < 224) : dec s p = if (∀ j, j < 2 - 1 → ctb s (p + j + 1) = true) ∧ (128 : Int) ≤ accR ((bt s p : Int) - 192) s p (2 - 1) ∧ okc (accR ((bt s p : Int) - 192) s p (2 - 1)).toNat = true
    then ((accR ((bt s p : Int) - 192) s p (2 - 1)).toNat, 2) else (65533, 1) := by
  have hb := bt_lt s p
  have hb1 := bt_lt s (p + 1)
  simp only [fa1, accR, Nat.add_zero, okc_iff, ctb_iff]
  rw [dec_def, if_neg (by omega)]
  by_cases hc : p + 1 < s.length ∧ bt s (p + 1) / 64 = 2
  · rw [if_pos (by simp [ctb_iff, hc]; omega)]
    refine ite_cond (by simp only [hc, true_and, and_self]; omega) (fun _ => by simp only [Prod.mk.injEq, and_true]; omega)
  · rw [if_neg (by simp only [Bool.and_eq_true, ctb_iff]; exact fun k => hc k.2), if_neg (by simp; omega), if_neg (by simp; omega), if_neg (fun k => hc k.1)]

theorem dec3 {s : List UInt8} {p : Nat} (h1 : 224 ≤ bt s p) (h2 : bt s p < 240) : dec s p = if (∀ j, j < 3 - 1 → ctb s (p + j + 1) = true) ∧ (2048 : Int) ≤ accR ((bt s p : Int) - 224) s p (3 - 1) ∧ okc (accR ((bt s p : Int) - 224) s p (3 - 1)).toNat = true
    then ((accR ((bt s p : Int) - 224) s p (3 - 1)).toNat, 3) else (65533, 1) := by
  have hb := bt_lt s p
  have hb1 := bt_lt s (p + 1)
  have hb2 := bt_lt s (p + 2)
  simp only [fa2, accR, Nat.add_zero, okc_iff, ctb_iff, show p + 1 + 1 = p + 2 by omega]
  rw [dec_def, if_neg (by omega), if_neg (by simp; omega)]
  by_cases hc : (p + 1 < s.length ∧ bt s (p + 1) / 64 = 2) ∧ (p + 2 < s.length ∧ bt s (p + 2) / 64 = 2)
  · rw [if_pos (by simp [ctb_iff, hc]; omega)]
    refine ite_cond (by simp only [hc, true_and, and_self, Bool.and_eq_true, decide_eq_true_eq, okc_iff]; omega) (fun _ => by simp only [Prod.mk.injEq, and_true]; omega)
  · rw [if_neg (by simp only [Bool.and_eq_true, ctb_iff]; exact fun k => hc ⟨k.1.2, k.2⟩), if_neg (by simp; omega), if_neg (fun k => hc k.1)]

theorem dec4 {s : List UInt8} {p : Nat} (h1 : 240 ≤ bt s p) (h2 : bt s p < 245) : dec s p = if (∀ j, j < 4 - 1 → ctb s (p + j + 1) = true) ∧ (65536 : Int) ≤ accR ((bt s p : Int) - 240) s p (4 - 1) ∧ okc (accR ((bt s p : Int) - 240) s p (4 - 1)).toNat = true
    then ((accR ((bt s p : Int) - 240) s p (4 - 1)).toNat, 4) else (65533, 1) := by
  have hb := bt_lt s p
  have hb1 := bt_lt s (p + 1)
  have hb2 := bt_lt s (p + 2)
  have hb3 := bt_lt s (p + 3)
  simp only [fa3, accR, Nat.add_zero, okc_iff, ctb_iff, show p + 1 + 1 = p + 2 by omega, show p + 2 + 1 = p + 3 by omega]
  rw [dec_def, if_neg (by omega), if_neg (by simp; omega), if_neg (by simp; omega)]
  by_cases hc : (p + 1 < s.length ∧ bt s (p + 1) / 64 = 2) ∧ (p + 2 < s.length ∧ bt s (p + 2) / 64 = 2) ∧ (p + 3 < s.length ∧ bt s (p + 3) / 64 = 2)
  · rw [if_pos (by simp [ctb_iff, hc]; omega)]
    refine ite_cond (by simp only [hc, true_and, and_self, Bool.and_eq_true, decide_eq_true_eq, okc_iff]; omega) (fun _ => by simp only [Prod.mk.injEq, and_true]; omega)
  · rw [if_neg (by simp only [Bool.and_eq_true, ctb_iff]; exact fun k => hc ⟨k.1.1.2, k.1.2, k.2⟩), if_neg (fun k => hc k.1)]

theorem decX {s : List UInt8} {p : Nat} (h : (128 ≤ bt s p ∧ bt s p < 194) ∨ 245 ≤ bt s p) : dec s p = (65533, 1) := by
  have hb := bt_lt s p
  have hb1 := bt_lt s (p + 1)
  have hb2 := bt_lt s (p + 2)
  have hb3 := bt_lt s (p + 3)
  rw [dec_def, if_neg (by omega)]
  simp only [okc_iff, Bool.and_eq_true, decide_eq_true_eq, beq_iff_eq, ge_iff_le]
  split
  · split
    · omega
    · rfl
  · split
    · omega
    · split
      · split
        · omega
        · rfl
      · rfl

theorem bt_at {s : List UInt8} {i : Nat} (h : i < s.length) : (s[i].toNat) = bt s i := by
  simp [bt, List.getD_eq_getElem?_getD, h]

def okd (s : List UInt8) (p : Nat) : Bool := decide (dec s p ≠ (65533, 1))
theorem okd_eq (s : List UInt8) (p : Nat) : okd s p = decide (dec s p ≠ (65533, 1)) := rfl

theorem r04_Read (s : List UInt8) (p : Nat) (hp : p < s.length) (hl : s.length < 2^62) :
    Pure Tryd.prog 90 [.str s, .int .i64 p] (.tup [.int .i64 (dec s p).1, .int .i64 (dec s p).2, .bool (okd s p)]) := by
  rw [okd_eq]
  refine Pure.of_sw 92 Tryd.func90 rfl Tryd.ntmps90 (by kernel_rfl) (Nat.le_of_ble_eq_true (by kernel_rfl)) (by simp [closeds, AV.closed, aSs_closed, aIs_closed, aBs_closed, aRs_closed, aDen_closed]) (by simp [AV.closed, closeds, aSs_closed, aIs_closed, aBs_closed, aRs_closed, aDen_closed]) ?_; refine SW.of_vc ?_
  repeat first | refine opsStep ?_ | refine codeStep ?_ | refine drawStep ?_
  refine optE_of (c := s[p]) (by simp [hp]) ?_
  repeat first | refine opsStep ?_ | refine codeStep ?_ | refine drawStep ?_
  have hb := bt_lt s p
  rw [bt_at hp]
  have hw : IntKind.wrap .i64 (bt s p) = (bt s p : Int) := IntWalk.i64_in _ (by omega)
  have key : ∀ (w : Nat) (least x0 : Int), 2 ≤ w → w ≤ 4 → 0 ≤ x0 → x0 < 64 →
      (dec s p = if (∀ j, j < w - 1 → ctb s (p + j + 1) = true) ∧ least ≤ accR x0 s p (w - 1) ∧ okc (accR x0 s p (w - 1)).toNat = true then ((accR x0 s p (w - 1)).toNat, w) else (65533, 1)) →
      VCode Tryd.prog 92 (cSnd (cSnd (cSnd (cSnd (Tryd.f90.body.getD .skip))))) (fr [(0, .str s), (1, .int .i64 p), (7, .int .i64 x0), (8, .int .i64 w), (9, .int .i64 least)]) []
        (pureK Tryd.prog 92 Tryd.f90.results.toList (.tup [.int .i64 (dec s p).1, .int .i64 (dec s p).2, .bool (decide (dec s p ≠ (65533, 1)))])) := by
    intro w least x0 h2 h4 hx0 hx1 hdec
    have hsub : IntKind.wrap .i64 ((s.length : Int) - p) = s.length - p := IntWalk.i64_in _ (by omega)
    repeat first | refine opsStep ?_ | refine codeStep ?_ | refine drawStep ?_
    refine decB_split (fun h => ?_) (fun h => ?_)
    · repeat first | refine opsStep ?_ | refine codeStep ?_ | refine drawStep ?_
      have hd : dec s p = (65533, 1) := by
        rw [hdec, if_neg]
        rintro ⟨hc, _⟩
        have := hc (w - 2) (by omega)
        simp [ctb] at this
        simp [hsub] at h
        omega
      exact finV (v' := .tup [.int .i64 65533, .int .i64 1, .bool false]) (by kernel_rfl) (by rw [hd]; simp)
    · repeat first | refine opsStep ?_ | refine codeStep ?_ | refine drawStep ?_
      have hlen : p + w ≤ s.length := by simp [hsub] at h; omega
      refine loopE_of (ι := {i : Nat // 1 ≤ i ∧ i ≤ w ∧ (∀ j, j < i - 1 → ctb s (p + j + 1) = true) ∧ 0 ≤ accR x0 s p (i - 1) ∧ accR x0 s p (i - 1) < 64 ^ i})
        (fun i => (fr [(0, .str s), (1, .int .i64 p), (7, .int .i64 (accR x0 s p (i.1 - 1))), (8, .int .i64 w), (9, .int .i64 least), (10, .int .i64 i.1)], [])) (fun i => w - i.1)
        ⟨1, by omega, by omega, by intro j hj; omega, by simpa [accR] using hx0, by simpa [accR] using hx1⟩ (Ent.fr' ⟨(by kernel_rfl), (by kernel_rfl), (by kernel_rfl), (by kernel_rfl), (by kernel_rfl), (by kernel_rfl), trivial⟩ (by kernel_rfl)) ?_
      rintro ⟨i, hi1, hi2, hct, hlo, hhi⟩
      repeat first | refine opsStep ?_ | refine codeStep ?_ | refine drawStep ?_
      refine decB_split (fun h => ?_) (fun h => ?_)
      · have hiw : i < w := by simp at h; omega
        have hwp : IntKind.wrap .i64 ((p : Int) + i) = p + i := IntWalk.i64_in _ (by omega)
        have hpi : p + i < s.length := by omega
        have hb1 := bt_lt s (p + i)
        have hw1 : IntKind.wrap .i64 (bt s (p + i)) = (bt s (p + i) : Int) := IntWalk.i64_in _ (by omega)
        have hbad : (bt s (p + i) < 128 ∨ 191 < bt s (p + i)) → dec s p = (65533, 1) := by
          intro hb
          rw [hdec, if_neg]
          rintro ⟨hc, _⟩
          have := hc (i - 1) (by omega)
          rw [show p + (i - 1) + 1 = p + i by omega] at this
          simp [ctb] at this
          omega
        repeat first | refine opsStep ?_ | refine codeStep ?_ | refine drawStep ?_
        refine guardE_of (by rw [hwp]; omega) ?_
        repeat first | refine opsStep ?_ | refine codeStep ?_ | refine drawStep ?_
        refine optE_of (c := s[p + i]) (by rw [hwp]; simp [← Int.natCast_add, hpi]) ?_
        rw [bt_at hpi]
        repeat first | refine opsStep ?_ | refine codeStep ?_ | refine drawStep ?_
        refine decB_split (fun h => ?_) (fun h => ?_)
        · repeat first | refine opsStep ?_ | refine codeStep ?_ | refine drawStep ?_
          exact finV (v' := .tup [.int .i64 65533, .int .i64 1, .bool false]) (by kernel_rfl) (by rw [hbad (by simp [hw1] at h; omega)]; simp)
        · repeat first | refine opsStep ?_ | refine codeStep ?_ | refine drawStep ?_
          refine decB_split (fun h => ?_) (fun h => ?_)
          · repeat first | refine opsStep ?_ | refine codeStep ?_ | refine drawStep ?_
            exact finV (v' := .tup [.int .i64 65533, .int .i64 1, .bool false]) (by kernel_rfl) (by rw [hbad (by simp [hw1] at h; omega)]; simp)
          · repeat first | refine opsStep ?_ | refine codeStep ?_ | refine drawStep ?_
            rename_i h0
            simp [hw1] at h h0
            have hpow : 64 ^ i ≤ 64 ^ 3 := Nat.pow_le_pow_right (by omega) (by omega)
            have hacc : accR x0 s p (i + 1 - 1) = accR x0 s p (i - 1) * 64 + bt s (p + i) - 128 := by
              obtain ⟨i, rfl⟩ : ∃ k, i = k + 1 := ⟨i - 1, by omega⟩
              rfl
            have hhi' : accR x0 s p (i - 1) < ((64 ^ i : Nat) : Int) := by simpa using hhi
            have h1 : IntKind.wrap .i64 (accR x0 s p (i - 1) * 64) = accR x0 s p (i - 1) * 64 := IntWalk.i64_in _ (by omega)
            have h2 : IntKind.wrap .i64 (accR x0 s p (i - 1) * 64 + bt s (p + i)) = accR x0 s p (i - 1) * 64 + bt s (p + i) := IntWalk.i64_in _ (by omega)
            have h3 : IntKind.wrap .i64 (accR x0 s p (i - 1) * 64 + bt s (p + i) - 128) = accR x0 s p (i - 1) * 64 + bt s (p + i) - 128 := IntWalk.i64_in _ (by omega)
            refine ⟨⟨i + 1, by omega, by omega, ?_, by rw [hacc]; omega, ?_⟩, (by show w - (i + 1) < w - i; omega), Ent.fr' ⟨(by kernel_rfl), (by kernel_rfl), ?_, (by kernel_rfl), (by kernel_rfl), inc_slot (i := i) (by omega), trivial⟩ (by kernel_rfl)⟩
            · intro j hj
              by_cases e : j < i - 1
              · exact hct j e
              · rw [show p + j + 1 = p + i by omega]
                simp [ctb]
                omega
            · rw [hacc]
              have : ((64 ^ (i + 1) : Nat) : Int) = 64 * ((64 ^ i : Nat) : Int) := by rw [Nat.pow_succ]; push_cast; omega
              have e : ((64 : Int) ^ (i + 1)) = ((64 ^ (i + 1) : Nat) : Int) := by push_cast; rfl
              rw [e]; omega
            · show AV.int .i64 (IntKind.wrap .i64 (IntKind.wrap .i64 (IntKind.wrap .i64 (accR x0 s p (i - 1) * 64) + IntKind.wrap .i64 (bt s (p + i))) - 128)) = _
              rw [h1, hw1, h2, h3, hacc]
      · have hiw : i = w := by simp at h; omega
        subst hiw
        have hdec' : dec s p = if least ≤ accR x0 s p (i - 1) ∧ accR x0 s p (i - 1) ≤ 1114111 ∧ ¬(55296 ≤ accR x0 s p (i - 1) ∧ accR x0 s p (i - 1) ≤ 57343) then ((accR x0 s p (i - 1)).toNat, i) else (65533, 1) := by
          rw [hdec]
          have e : ∀ (q r : Prop) [Decidable q] [Decidable r] (x y : Nat × Nat), (q ↔ r) → (if q then x else y) = (if r then x else y) := fun q r _ _ x y h => by
            by_cases hq : q
            · rw [if_pos hq, if_pos (h.1 hq)]
            · rw [if_neg hq, if_neg (fun k => hq (h.2 k))]
          apply e
          simp only [okc, Utf8.valid, Bool.or_eq_true, Bool.and_eq_true, decide_eq_true_eq]
          constructor
          · rintro ⟨_, h1, h2⟩; omega
          · rintro ⟨h1, h2, h3⟩; exact ⟨hct, h1, by omega⟩
        have hA : ∃ A, accR x0 s p (i - 1) = A := ⟨_, rfl⟩
        repeat' first | refine opsStep ?_ | refine codeStep ?_ | refine decB_split (fun h => ?_) (fun h => ?_)
        all_goals first
          | exact finV (v' := .tup [.int .i64 65533, .int .i64 1, .bool false]) (by kernel_rfl) (by rw [hdec', if_neg (by simp at *; omega)]; simp)
          | exact finV (v' := .tup [.int .i64 (accR x0 s p (i - 1)), .int .i64 i, .bool true]) (by kernel_rfl) (by rw [hdec', if_pos (by simp at *; omega)]; simp; omega)
  refine decB_split (fun h => ?_) (fun h => ?_)
  · repeat first | refine opsStep ?_ | refine codeStep ?_ | refine drawStep ?_
    exact finV (v' := .tup [.int .i64 (IntKind.wrap .i64 (bt s p)), .int .i64 1, .bool true]) (by kernel_rfl) (by simp [hw] at h; rw [dec_def, if_pos (by omega)]; simp [hw]; omega)
  · have hn : 128 ≤ bt s p := by simp [hw] at h; omega
    have cw : ∀ k : Nat, k ≤ 240 → IntKind.wrap .i64 ((bt s p : Int) - k) = bt s p - k := fun k hk => IntWalk.i64_in _ (by omega)
    have nb : ∀ {b : Bool}, b = false → b ≠ true := fun h => by simp [h]
    repeat first | refine opsStep ?_ | refine codeStep ?_ | refine drawStep ?_
    refine decB_dec (fun h1 => ?_) (fun h1 => ?_)
    · rw [hw] at h1
      repeat first | refine opsStep ?_ | refine codeStep ?_ | refine drawStep ?_
      refine decB_dec (fun h2 => ?_) (fun h2 => ?_)
      · rw [hw] at h2
        repeat first | refine VCode.ent ?_ (key 2 128 ((bt s p : Int) - 192) (by omega) (by omega) (by omega) (by omega) (dec2 (by omega) (by omega))) | refine opsStep ?_ | refine codeStep ?_
        exact Ent.fr' ⟨(by kernel_rfl), (by kernel_rfl), (congrArg (AV.int .i64) ((congrArg (fun z => IntKind.wrap .i64 (z - 192)) hw).trans (cw 192 (by omega))) : _), (by kernel_rfl), (by kernel_rfl), trivial⟩ (by kernel_rfl)
      · rw [hw] at h2
        repeat first | refine opsStep ?_ | refine codeStep ?_ | refine drawStep ?_
        refine decB_dec (fun h3 => ?_) (fun h3 => ?_)
        · rw [hw] at h3
          repeat first | refine opsStep ?_ | refine codeStep ?_ | refine drawStep ?_
          refine decB_dec (fun h4 => ?_) (fun h4 => ?_)
          · rw [hw] at h4
            repeat first | refine VCode.ent ?_ (key 3 2048 ((bt s p : Int) - 224) (by omega) (by omega) (by omega) (by omega) (dec3 (by omega) (by omega))) | refine opsStep ?_ | refine codeStep ?_
            exact Ent.fr' ⟨(by kernel_rfl), (by kernel_rfl), (congrArg (AV.int .i64) ((congrArg (fun z => IntKind.wrap .i64 (z - 224)) hw).trans (cw 224 (by omega))) : _), (by kernel_rfl), (by kernel_rfl), trivial⟩ (by kernel_rfl)
          · rw [hw] at h4
            repeat first | refine opsStep ?_ | refine codeStep ?_ | refine drawStep ?_
            refine decB_dec (fun h5 => ?_) (fun h5 => ?_)
            · rw [hw] at h5
              repeat first | refine opsStep ?_ | refine codeStep ?_ | refine drawStep ?_
              refine decB_dec (fun h6 => ?_) (fun h6 => ?_)
              · rw [hw] at h6
                repeat first | refine VCode.ent ?_ (key 4 65536 ((bt s p : Int) - 240) (by omega) (by omega) (by omega) (by omega) (dec4 (by omega) (by omega))) | refine opsStep ?_ | refine codeStep ?_
                exact Ent.fr' ⟨(by kernel_rfl), (by kernel_rfl), (congrArg (AV.int .i64) ((congrArg (fun z => IntKind.wrap .i64 (z - 240)) hw).trans (cw 240 (by omega))) : _), (by kernel_rfl), (by kernel_rfl), trivial⟩ (by kernel_rfl)
              · rw [hw] at h6
                repeat first | refine opsStep ?_ | refine codeStep ?_ | refine drawStep ?_
                exact finV (v' := .tup [.int .i64 65533, .int .i64 1, .bool false]) (by kernel_rfl) (by rw [decX (by omega)]; simp)
            · exact absurd (hw ▸ h5) (by omega)
        · exact absurd (hw ▸ h3) (by omega)
    · rw [hw] at h1
      repeat first | refine opsStep ?_ | refine codeStep ?_ | refine drawStep ?_
      refine decB_dec (fun h3 => ?_) (fun h3 => ?_)
      · exact absurd (hw ▸ h3) (by omega)
      · repeat first | refine opsStep ?_ | refine codeStep ?_ | refine drawStep ?_
        refine decB_dec (fun h5 => ?_) (fun h5 => ?_)
        · exact absurd (hw ▸ h5) (by omega)
        · repeat first | refine opsStep ?_ | refine codeStep ?_ | refine drawStep ?_
          exact finV (v' := .tup [.int .i64 65533, .int .i64 1, .bool false]) (by kernel_rfl) (by rw [decX (by omega)]; simp)

attribute [irreducible] okd
end Tab

/- Lists compared. -/
namespace Tab
open Go Go.Proofs
set_option maxRecDepth 10000
set_option linter.unusedVariables false
set_option linter.unusedSimpArgs false
set_option linter.unusedSectionVars false

end Tab

/- Names, lists of names. -/
namespace Tab
open Go Go.Proofs
set_option maxRecDepth 10000
set_option linter.unusedVariables false
set_option linter.unusedSimpArgs false
set_option linter.unusedSectionVars false

def nmFrom (s : List UInt8) : Nat → Nat → Nat → Option Nat
  | 0, _, n => some n
  | f + 1, p, n => if p < s.length then (if ((decide (p = 0) && !startR (dec s p).1) || !restR (dec s p).1) = true then none else nmFrom s f (p + (dec s p).2) (n + 1)) else some n

def nameS (s : List UInt8) : Bool := match nmFrom s (s.length + 1) 0 0 with
  | none => false
  | some n => decide (0 < n) && decide (n ≤ 16) && !resS s

theorem dec_width (s : List UInt8) (p : Nat) : 1 ≤ (dec s p).2 ∧ (dec s p).2 ≤ 4 := by
  rw [dec_def]
  simp only []
  repeat' split
  all_goals simp

def NmInv (s : List UInt8) (x : Nat × Nat × Nat) : Prop :=
  nmFrom s (s.length + 1) 0 0 = nmFrom s x.2.2 x.1 x.2.1 ∧ s.length < x.1 + x.2.2 ∧ x.2.1 ≤ x.1 ∧ x.1 ≤ s.length + 3 ∧ (x.2.1 = 0 ↔ x.1 = 0)

theorem NmInv.step {s : List UInt8} {p n f : Nat} (h : NmInv s (p, n, f)) (hp : p < s.length) (hg : ((decide (p = 0) && !startR (dec s p).1) || !restR (dec s p).1) = false) : NmInv s (p + (dec s p).2, n + 1, f - 1) := by
  obtain ⟨h1, h2, h3, h4, h5⟩ := h
  have hw := dec_width s p
  simp only at h1 h2 h3 h4 h5
  refine ⟨?_, by simp only; omega, by simp only; omega, by simp only; omega, by simp only; omega⟩
  obtain ⟨f, rfl⟩ : ∃ k, f = k + 1 := ⟨f - 1, by omega⟩
  rw [h1, nmFrom, if_pos hp, if_neg (by rw [hg]; simp)]
  rfl
theorem NmInv.bad {s : List UInt8} {p n f : Nat} (h : NmInv s (p, n, f)) (hp : p < s.length) (hg : ((decide (p = 0) && !startR (dec s p).1) || !restR (dec s p).1) = true) : nameS s = false := by
  obtain ⟨h1, h2, h3, h4, h5⟩ := h
  simp only at h1 h2 h3 h4 h5
  obtain ⟨f, rfl⟩ : ∃ k, f = k + 1 := ⟨f - 1, by omega⟩
  have e : nmFrom s (f + 1) p n = none := by rw [nmFrom, if_pos hp, if_pos hg]
  rw [e] at h1
  simp [nameS, h1]
theorem NmInv.done {s : List UInt8} {p n f : Nat} (h : NmInv s (p, n, f)) (hp : ¬ p < s.length) : nameS s = (decide (0 < n) && decide (n ≤ 16) && !resS s) := by
  obtain ⟨h1, h2, h3, h4, h5⟩ := h
  simp only at h1 h2 h3 h4 h5
  have : nmFrom s f p n = some n := by
    cases f with
    | zero => rfl
    | succ f => rw [nmFrom, if_neg hp]
  rw [this] at h1
  simp [nameS, h1]

theorem glyph_Name (s : List UInt8) (hl : s.length < 2^62) : Pure Tryd.prog 109 [.str s] (.bool (nameS s)) := by
  refine Pure.of_sw 37 Tryd.func109 rfl Tryd.ntmps109 (by kernel_rfl) (Nat.le_of_ble_eq_true (by kernel_rfl)) (by simp [closeds, AV.closed, aSs_closed, aIs_closed, aBs_closed, aRs_closed, aDen_closed]) (by simp [AV.closed, closeds, aSs_closed, aIs_closed, aBs_closed, aRs_closed, aDen_closed]) ?_; refine SW.of_vc ?_
  repeat first | refine opsStep ?_ | refine codeStep ?_ | refine drawStep ?_
  refine loopE_of (ι := {x : Nat × Nat × Nat // NmInv s x}) (fun x => (fr [(0, .str s), (3, .int .i64 x.1.2.1), (7, .ref 0 0 0)], [.siter s x.1.1])) (fun x => s.length + 4 - x.1.1)
    ⟨(0, 0, s.length + 1), rfl, by simp, by simp, by simp, by simp⟩ (Ent.fr' ⟨(by kernel_rfl), (by kernel_rfl), (by kernel_rfl), trivial⟩ (by kernel_rfl)) ?_
  rintro ⟨⟨p, n, f⟩, hinv⟩
  have hw := dec_width s p
  have hinv' := hinv
  obtain ⟨-, -, hnp, hps, hn0⟩ := hinv'
  simp only at hnp hps hn0
  repeat first | refine opsStep ?_ | refine codeStep ?_ | refine drawStep ?_
  refine decB_dec (fun hp => ?_) (fun hp => ?_)
  · repeat first | refine opsStep ?_ | refine codeStep ?_ | refine drawStep ?_
    refine decB_split (fun h => ?_) (fun h => ?_)
    · repeat first | refine opsStep ?_ | refine codeStep ?_ | refine drawStep ?_
      refine callP (glyph_Start _) ?_
      repeat first | refine opsStep ?_ | refine codeStep ?_ | refine drawStep ?_
      refine decB_split (fun h => ?_) (fun h => ?_)
      · repeat first | refine opsStep ?_ | refine codeStep ?_ | refine drawStep ?_
        exact finB rfl (by rw [hinv.bad hp (by simp_all)])
      · repeat first | refine opsStep ?_ | refine codeStep ?_ | refine drawStep ?_
        refine callP (glyph_Rest _) ?_
        repeat first | refine opsStep ?_ | refine codeStep ?_ | refine drawStep ?_
        refine decB_split (fun h => ?_) (fun h => ?_)
        · repeat first | refine opsStep ?_ | refine codeStep ?_ | refine drawStep ?_
          exact finB rfl (by rw [hinv.bad hp (by simp_all)])
        · repeat first | refine opsStep ?_ | refine codeStep ?_ | refine drawStep ?_
          refine ⟨⟨(p + (dec s p).2, n + 1, f - 1), hinv.step hp (by simp_all)⟩, (by show s.length + 4 - (p + (dec s p).2) < s.length + 4 - p; have : p < s.length := hp; omega), Ent.fr' ⟨(by kernel_rfl), inc_slot (i := n) (by omega), (by kernel_rfl), trivial⟩ (by kernel_rfl)⟩
    · repeat first | refine opsStep ?_ | refine codeStep ?_ | refine drawStep ?_
      refine callP (glyph_Rest _) ?_
      repeat first | refine opsStep ?_ | refine codeStep ?_ | refine drawStep ?_
      refine decB_split (fun h => ?_) (fun h => ?_)
      · repeat first | refine opsStep ?_ | refine codeStep ?_ | refine drawStep ?_
        exact finB rfl (by rw [hinv.bad hp (by simp_all)])
      · repeat first | refine opsStep ?_ | refine codeStep ?_ | refine drawStep ?_
        refine ⟨⟨(p + (dec s p).2, n + 1, f - 1), hinv.step hp (by simp_all)⟩, (by show s.length + 4 - (p + (dec s p).2) < s.length + 4 - p; have : p < s.length := hp; omega), Ent.fr' ⟨(by kernel_rfl), inc_slot (i := n) (by omega), (by kernel_rfl), trivial⟩ (by kernel_rfl)⟩
  · repeat first | refine opsStep ?_ | refine codeStep ?_ | refine drawStep ?_
    refine decB_dec (fun h1 => ?_) (fun h1 => ?_)
    · repeat first | refine opsStep ?_ | refine codeStep ?_ | refine drawStep ?_
      refine decB_dec (fun h2 => ?_) (fun h2 => ?_)
      · repeat first | refine opsStep ?_ | refine codeStep ?_ | refine drawStep ?_
        refine callP (glyph_Reserved _) ?_
        repeat first | refine opsStep ?_ | refine codeStep ?_ | refine drawStep ?_
        exact finB rfl (by rw [hinv.done hp, decide_eq_true (show 0 < n by simp at h1; omega), decide_eq_true (show n ≤ 16 by simp at h2; omega)]; simp)
      · repeat first | refine opsStep ?_ | refine codeStep ?_ | refine drawStep ?_
        exact finB rfl (by rw [hinv.done hp, decide_eq_true (show 0 < n by simp at h1; omega), decide_eq_false (show ¬ n ≤ 16 by simp at h2; omega)]; simp)
    · repeat first | refine opsStep ?_ | refine codeStep ?_ | refine drawStep ?_
      exact finB rfl (by rw [hinv.done hp, decide_eq_false (show ¬ 0 < n by simp at h1; omega)]; simp)

theorem r04_Name (s : List UInt8) (hl : s.length < 2^62) : Pure Tryd.prog 84 [.str s] (.bool (nameS s)) := by
  refine Pure.of_sw 51 Tryd.func84 rfl Tryd.ntmps84 (by kernel_rfl) (Nat.le_of_ble_eq_true (by kernel_rfl)) (by simp [closeds, AV.closed, aSs_closed, aIs_closed, aBs_closed, aRs_closed, aDen_closed]) (by simp [AV.closed, closeds, aSs_closed, aIs_closed, aBs_closed, aRs_closed, aDen_closed]) ?_; refine SW.of_vc ?_
  repeat first | refine opsStep ?_ | refine codeStep ?_ | refine drawStep ?_
  refine loopE_of (ι := {x : Nat × Nat × Nat // NmInv s x}) (fun x => (fr [(0, .str s), (3, .int .i64 x.1.2.1), (4, .int .i64 x.1.1)], [])) (fun x => s.length + 4 - x.1.1)
    ⟨(0, 0, s.length + 1), rfl, by simp, by simp, by simp, by simp⟩ (Ent.fr' ⟨(by kernel_rfl), (by kernel_rfl), (by kernel_rfl), trivial⟩ (by kernel_rfl)) ?_
  rintro ⟨⟨p, n, f⟩, hinv⟩
  have hw := dec_width s p
  have hinv' := hinv
  obtain ⟨-, -, hnp, hps, hn0⟩ := hinv'
  simp only at hnp hps hn0
  repeat first | refine opsStep ?_ | refine codeStep ?_ | refine drawStep ?_
  refine decB_dec (fun hp0 => ?_) (fun hp0 => ?_)
  · have hp : p < s.length := by simpa using hp0
    repeat first | refine opsStep ?_ | refine codeStep ?_ | refine drawStep ?_
    refine callP (r04_Read s p hp hl) ?_
    have hbad : okd s p = false → nameS s = false := fun e => hinv.bad hp (by
      have e : dec s p = (65533, 1) := by rw [okd_eq] at e; simpa using e
      rw [e]; have : restR 65533 = false := by unfold restR startR; simp
      simp only [show ((65533, 1) : Nat × Nat).1 = 65533 from rfl]; rw [show ((65533 : Nat) : Int) = 65533 from rfl, this]; simp)
    repeat first | refine opsStep ?_ | refine codeStep ?_ | refine drawStep ?_
    refine decB_split (fun h => ?_) (fun h => ?_)
    · repeat first | refine opsStep ?_ | refine codeStep ?_ | refine drawStep ?_
      exact finB rfl (by rw [hbad (by simp_all)])
    · repeat first | refine opsStep ?_ | refine codeStep ?_ | refine drawStep ?_
      refine decB_split (fun h => ?_) (fun h => ?_)
      · repeat first | refine opsStep ?_ | refine codeStep ?_ | refine drawStep ?_
        refine callP (r04_Start _) ?_
        repeat first | refine opsStep ?_ | refine codeStep ?_ | refine drawStep ?_
        refine decB_split (fun h => ?_) (fun h => ?_)
        · repeat first | refine opsStep ?_ | refine codeStep ?_ | refine drawStep ?_
          exact finB rfl (by rw [hinv.bad hp (by simp_all)])
        · repeat first | refine opsStep ?_ | refine codeStep ?_ | refine drawStep ?_
          refine callP (r04_Rest _) ?_
          repeat first | refine opsStep ?_ | refine codeStep ?_ | refine drawStep ?_
          refine decB_split (fun h => ?_) (fun h => ?_)
          · repeat first | refine opsStep ?_ | refine codeStep ?_ | refine drawStep ?_
            exact finB rfl (by rw [hinv.bad hp (by simp_all)])
          · repeat first | refine opsStep ?_ | refine codeStep ?_ | refine drawStep ?_
            refine ⟨⟨(p + (dec s p).2, n + 1, f - 1), hinv.step hp (by simp_all)⟩, (by show s.length + 4 - (p + (dec s p).2) < s.length + 4 - p; omega), Ent.fr' ⟨(by kernel_rfl), inc_slot (i := n) (by omega), (congrArg (AV.int .i64) ((IntWalk.i64_in ((p : Int) + (dec s p).2) (by omega)).trans (Int.natCast_add _ _).symm) : _), trivial⟩ (by kernel_rfl)⟩
      · repeat first | refine opsStep ?_ | refine codeStep ?_ | refine drawStep ?_
        refine callP (r04_Rest _) ?_
        repeat first | refine opsStep ?_ | refine codeStep ?_ | refine drawStep ?_
        refine decB_split (fun h => ?_) (fun h => ?_)
        · repeat first | refine opsStep ?_ | refine codeStep ?_ | refine drawStep ?_
          exact finB rfl (by rw [hinv.bad hp (by simp_all)])
        · repeat first | refine opsStep ?_ | refine codeStep ?_ | refine drawStep ?_
          refine ⟨⟨(p + (dec s p).2, n + 1, f - 1), hinv.step hp (by simp_all)⟩, (by show s.length + 4 - (p + (dec s p).2) < s.length + 4 - p; omega), Ent.fr' ⟨(by kernel_rfl), inc_slot (i := n) (by omega), (congrArg (AV.int .i64) ((IntWalk.i64_in ((p : Int) + (dec s p).2) (by omega)).trans (Int.natCast_add _ _).symm) : _), trivial⟩ (by kernel_rfl)⟩
  · have hp : ¬ p < s.length := by simpa using hp0
    repeat first | refine opsStep ?_ | refine codeStep ?_ | refine drawStep ?_
    refine decB_dec (fun h1 => ?_) (fun h1 => ?_)
    · repeat first | refine opsStep ?_ | refine codeStep ?_ | refine drawStep ?_
      refine decB_dec (fun h2 => ?_) (fun h2 => ?_)
      · repeat first | refine opsStep ?_ | refine codeStep ?_ | refine drawStep ?_
        refine callP (r04_Reserved _) ?_
        repeat first | refine opsStep ?_ | refine codeStep ?_ | refine drawStep ?_
        exact finB rfl (by rw [hinv.done hp, decide_eq_true (show 0 < n by simp at h1; omega), decide_eq_true (show n ≤ 16 by simp at h2; omega)]; simp)
      · repeat first | refine opsStep ?_ | refine codeStep ?_ | refine drawStep ?_
        exact finB rfl (by rw [hinv.done hp, decide_eq_true (show 0 < n by simp at h1; omega), decide_eq_false (show ¬ n ≤ 16 by simp at h2; omega)]; simp)
    · repeat first | refine opsStep ?_ | refine codeStep ?_ | refine drawStep ?_
      exact finB rfl (by rw [hinv.done hp, decide_eq_false (show ¬ 0 < n by simp at h1; omega)]; simp)
attribute [irreducible] nameS
end Tab

/- Lists of names: places in them, rising ones. -/
namespace Tab
open Go Go.Proofs
set_option maxRecDepth 10000
set_option linter.unusedVariables false
set_option linter.unusedSimpArgs false
set_option linter.unusedSectionVars false

def idxS (l : List (List UInt8)) (s : List UInt8) : Int := if l.idxOf s < l.length then (l.idxOf s : Int) else -1

theorem idx_hit {l : List (List UInt8)} {s : List UInt8} {i : Nat} (hi : i < l.length) (hn : s ∉ l.take i) (h : l[i] = s) : idxS l s = i := by
  have e : l = l.take i ++ l[i] :: l.drop (i + 1) := by simp
  have : l.idxOf s = i := by
    rw [e, List.idxOf_append, if_neg hn, h, List.idxOf_cons_self]
    simp; omega
  rw [idxS, this, if_pos hi]
theorem idx_miss {l : List (List UInt8)} {s : List UInt8} (h : s ∉ l) : idxS l s = -1 := by
  rw [idxS, List.idxOf_eq_length h, if_neg (by omega)]

def badAt (l : List (List UInt8)) (i : Nat) : Bool := !nameS (l.getD i []) || (decide (0 < i) && !(Op.bytesLess (l.getD (i - 1) []) (l.getD i [])))
def risesS (l : List (List UInt8)) : Bool := (List.range l.length).all fun i => !badAt l i

theorem rises_bad {l : List (List UInt8)} {i : Nat} (hi : i < l.length) (h : badAt l i = true) : risesS l = false := by
  rw [risesS, ← Bool.not_eq_true, List.all_eq_true]
  intro k
  have := k i (by simp [hi])
  simp [h] at this
theorem rises_ok {l : List (List UInt8)} (h : ∀ j, j < l.length → badAt l j = false) : risesS l = true := by
  rw [risesS, List.all_eq_true]
  intro i hi
  simp [h i (by simpa using hi)]

end Tab

/- Texts in order; the library's sort of short lists. -/
namespace Tab
open Go Go.Proofs
set_option maxRecDepth 10000
set_option linter.unusedVariables false
set_option linter.unusedSimpArgs false
set_option linter.unusedSectionVars false

abbrev less (a b : List UInt8) : Bool := Op.bytesLess a b
theorem less_irrefl : ∀ (a : List UInt8), less a a = false
  | [] => rfl
  | a :: x => by have := less_irrefl x; simp [less, Op.bytesLess] at this ⊢; exact this
theorem less_trans : ∀ {a b c : List UInt8}, less a b = true → less b c = true → less a c = true
  | _, [], _, h, _ => by simp [less, Op.bytesLess] at h
  | _, _ :: _, [], _, h => by simp [less, Op.bytesLess] at h
  | [], _ :: _, _ :: _, _, _ => rfl
  | a :: x, b :: y, c :: z, h1, h2 => by
    simp only [less, Op.bytesLess, Bool.or_eq_true, Bool.and_eq_true, decide_eq_true_eq, beq_iff_eq] at h1 h2 ⊢
    rcases h1 with h1 | ⟨rfl, h1⟩
    · rcases h2 with h2 | ⟨rfl, h2⟩
      · exact .inl (UInt8.lt_trans h1 h2)
      · exact .inl h1
    · rcases h2 with h2 | ⟨rfl, h2⟩
      · exact .inl h2
      · exact .inr ⟨rfl, less_trans h1 h2⟩
theorem less_asymm {a b : List UInt8} (h : less a b = true) : less b a = false := by
  cases e : less b a with
  | false => rfl
  | true => have := less_trans h e; rw [less_irrefl] at this; exact absurd this (by simp)
theorem less_total : ∀ {a b : List UInt8}, less a b = false → less b a = false → a = b
  | [], [], _, _ => rfl
  | [], _ :: _, h, _ => by simp [less, Op.bytesLess] at h
  | _ :: _, [], _, h => by simp [less, Op.bytesLess] at h
  | a :: x, b :: y, h1, h2 => by
    simp only [less, Op.bytesLess, Bool.or_eq_false_iff, Bool.and_eq_false_iff, decide_eq_false_iff_not, beq_eq_false_iff_ne] at h1 h2
    have e : a = b := UInt8.le_antisymm (UInt8.not_lt.1 h2.1) (UInt8.not_lt.1 h1.1)
    subst e
    rw [less_total (h1.2.resolve_left (by simp)) (h2.2.resolve_left (by simp))]

theorem over_length' {cs xs : List AV} {o : Nat} (h : o + xs.length ≤ cs.length) : (over cs o xs).length = cs.length := by simp [over]; omega

def lt2 (r : List (List UInt8)) (a b : Nat) : Bool := less (r.getD a []) (r.getD b [])
/-- The first i are in order. -/
def SrtTo (r : List (List UInt8)) (i : Nat) : Prop := ∀ m, m + 1 < i → lt2 r (m + 1) m = false
def SrtAt (r : List (List UInt8)) (i j : Nat) : Prop := (∀ m, m < i → m + 1 ≠ j → lt2 r (m + 1) m = false) ∧ (0 < j → j < i → lt2 r (j + 1) (j - 1) = false)
def swp (r : List (List UInt8)) (j : Nat) : List (List UInt8) := (r.set j (r.getD (j - 1) [])).set (j - 1) (r.getD j [])

theorem swp_get {r : List (List UInt8)} {j m : Nat} (hj : 0 < j) (hl : j < r.length) : (swp r j).getD m [] = if m = j then r.getD (j - 1) [] else if m = j - 1 then r.getD j [] else r.getD m [] := by
  simp only [swp, List.getD_eq_getElem?_getD, List.getElem?_set, List.length_set]
  by_cases h1 : m = j
  · subst h1
    rw [if_pos rfl, if_neg (by omega), if_pos rfl, if_pos hl]
    rfl
  · rw [if_neg h1]
    by_cases h2 : m = j - 1
    · rw [if_pos h2, if_pos h2.symm, if_pos (by omega)]
      rfl
    · rw [if_neg h2, if_neg (fun e => h2 e.symm), if_neg (fun e => h1 e.symm)]
theorem swp_length (r j) : (swp r j).length = r.length := by simp [swp]
theorem swp_perm {r : List (List UInt8)} {j : Nat} (hj : 0 < j) (hl : j < r.length) : (swp r j).Perm r := by
  have e : swp r j = (r.set j r[j - 1]).set (j - 1) r[j] := by simp [swp, List.getD_eq_getElem?_getD, hl, show j - 1 < r.length by omega]
  rw [e]
  exact List.set_set_perm hl (by omega)
theorem swp_at {r : List (List UInt8)} {i j : Nat} (hj : 0 < j) (hl : j < r.length) (hji : j ≤ i) (h : SrtAt r i j) (hlt : lt2 r j (j - 1) = true) : SrtAt (swp r j) i (j - 1) := by
  obtain ⟨h1, h2⟩ := h
  refine ⟨fun m hm hne => ?_, fun hj0 hj1 => ?_⟩
  · simp only [lt2, swp_get hj hl]
    by_cases e1 : m = j
    · subst e1
      rw [if_neg (by omega), if_neg (by omega), if_pos rfl]
      exact h2 hj (by omega)
    · by_cases e2 : m + 1 = j
      · subst e2
        rw [if_pos rfl, if_neg (by omega), if_pos (by simp)]
        exact less_asymm hlt
      · rw [if_neg e2, if_neg (by omega), if_neg e1, if_neg (by omega)]
        exact h1 m hm (by omega)
  · simp only [lt2, swp_get hj hl]
    rw [if_pos (by omega), if_neg (by omega), if_neg (by omega)]
    have := h1 (j - 2) (by omega) (by omega)
    rw [lt2, show j - 2 + 1 = j - 1 by omega] at this
    rw [show j - 1 - 1 = j - 2 by omega]
    exact this

end Tab

/- The library's sort, of short lists. -/
namespace Tab
open Go Go.Proofs
set_option maxRecDepth 10000
set_option linter.unusedVariables false
set_option linter.unusedSimpArgs false
set_option linter.unusedSectionVars false

theorem bits_Len64 (n : Nat) (hn : n < 256) (H : List Blk) : ACall Tryd.prog 127 [.int .u64 n] H fun o H' => (∃ v : Int, o = .ret (.int .i64 v)) ∧ H' = H := by
  refine ACall.of_sw 25 Tryd.func127 rfl Tryd.ntmps127 (by kernel_rfl) (Nat.le_of_ble_eq_true (by kernel_rfl)) ?_; refine SW.of_vc ?_
  repeat first | refine opsStep ?_ | refine codeStep ?_ | refine drawStep ?_
  refine decB_dec (fun h1 => ?_) (fun h1 => ?_)
  · omega
  repeat first | refine opsStep ?_ | refine codeStep ?_ | refine drawStep ?_
  refine decB_dec (fun h2 => ?_) (fun h2 => ?_)
  · omega
  repeat first | refine opsStep ?_ | refine codeStep ?_ | refine drawStep ?_
  refine decB_dec (fun h3 => ?_) (fun h3 => ?_)
  · omega
  repeat first | refine opsStep ?_ | refine codeStep ?_ | refine drawStep ?_
  have hw : IntKind.wrap .u8 (n : Int) = n := IntWalk.u8_in _ (by omega)
  refine guardE_of (p := isStr Tryd.prog 9 = true) (by kernel_rfl) ?_
  refine guardE_of (p := (0 : Int) ≤ IntKind.wrap .u8 n) (by rw [hw]; omega) ?_
  refine optE_of (List.getElem?_eq_getElem (by rw [hw]; exact Nat.lt_of_lt_of_le hn (Nat.le_of_ble_eq_true (by kernel_rfl)))) ?_
  repeat first | refine opsStep ?_ | refine codeStep ?_ | refine drawStep ?_
  refine finR (l := [(2, _)]) (H₁ := H) ⟨rfl, trivial⟩ rfl (Ent.refl _ _ _) rfl ?_
  exact ⟨⟨_, rfl⟩, rfl⟩

/-- A call that leaves the heap, whose answer is some number. -/
theorem callI {P : Program} {f : FuncId} {args : List AV} {H : List Blk} {X : Out → List Blk → Prop} (h : ACall P f args H fun o H' => (∃ v : Int, o = .ret (.int .i64 v)) ∧ H' = H) (k : ∀ v, X (.ret (.int .i64 v)) H) :
    ∃ R : Out → List Blk → Prop, ACall P f args H R ∧ ∀ o H', R o H' → X o H' := ⟨_, h, by rintro _ _ ⟨⟨v, rfl⟩, rfl⟩; exact k v⟩

end Tab

/- How many digits a number needs. -/
namespace Tab
open Go Go.Proofs
set_option maxRecDepth 10000
set_option linter.unusedVariables false
set_option linter.unusedSimpArgs false
set_option linter.unusedSectionVars false


/-- The length of a small number in bits. -/
def bitsN (n : Nat) : Nat := if n = 0 then 0 else n.log2 + 1
theorem bitsN_le : ∀ n, n < 256 → bitsN n ≤ 8 := by decide +kernel
theorem bitsN_le7 : ∀ n, n < 128 → bitsN n ≤ 7 := by decide +kernel
/-- The length in bits, as the library counts it. -/
def cutN (c n : Nat) : Nat := if c ≤ n then n / c else n
def addN (c k n : Nat) : Nat := if c ≤ n then k else 0
def lenN (n : Nat) : Nat := addN 4294967296 32 n + addN 65536 16 (cutN 4294967296 n) + addN 256 8 (cutN 65536 (cutN 4294967296 n)) + bitsN (cutN 256 (cutN 65536 (cutN 4294967296 n)))
theorem lenN_le {n : Nat} (h : n < 2 ^ 63) : lenN n ≤ 63 := by
  have h1 : cutN 4294967296 n < 2 ^ 32 ∧ (4294967296 ≤ n → cutN 4294967296 n < 2 ^ 31) := by
    rw [cutN]; split <;> omega
  simp only [lenN]
  have h0 : addN 4294967296 32 n = if 4294967296 ≤ n then 32 else 0 := rfl
  rw [h0]
  generalize cutN 4294967296 n = a at *
  have h2 : cutN 65536 a < 2 ^ 16 ∧ (65536 ≤ a → a < 2 ^ 31 → cutN 65536 a < 2 ^ 15) := by
    rw [cutN]; split <;> omega
  have h0 : addN 65536 16 a = if 65536 ≤ a then 16 else 0 := rfl
  rw [h0]
  generalize cutN 65536 a = b at *
  have h3 : cutN 256 b < 2 ^ 8 ∧ (256 ≤ b → b < 2 ^ 15 → cutN 256 b < 2 ^ 7) := by
    rw [cutN]; split <;> omega
  have h0 : addN 256 8 b = if 256 ≤ b then 8 else 0 := rfl
  rw [h0]
  generalize cutN 256 b = c at *
  have k8 := bitsN_le c (by omega)
  have k7 := bitsN_le7 c
  split <;> split <;> split <;> omega

theorem tab_at (l : List UInt8) (h : ((List.range 256).all fun k => l[k]? == some (UInt8.ofNat (bitsN k))) = true) (n : Nat) (hn : n < 256) : l[(n : Int).toNat]? = some (UInt8.ofNat (bitsN n)) := by
  have := List.all_eq_true.1 h n (List.mem_range.2 hn)
  simpa using this

theorem shr_nat (n k : Nat) (hk : k ≤ 64) : (n : Int).fdiv (2 ^ (min (k : Int).toNat 64)) = ((n / 2 ^ k : Nat) : Int) := by
  rw [show min (k : Int).toNat 64 = k by simp; omega, show (2 : Int) ^ k = ((2 ^ k : Nat) : Int) by simp]
  rw [Int.fdiv_eq_ediv_of_nonneg _ (Int.natCast_nonneg _)]
  rfl

theorem Len64_val (n : Nat) (hn : n < 2 ^ 64) : Pure Tryd.prog 127 [.int .u64 n] (.int .i64 (lenN n : Nat)) := by
  have b1 : cutN 4294967296 n < 2 ^ 32 := by rw [cutN]; split <;> omega
  have b2 : cutN 65536 (cutN 4294967296 n) < 2 ^ 16 := by rw [cutN]; split <;> omega
  have b3 : cutN 256 (cutN 65536 (cutN 4294967296 n)) < 256 := by rw [cutN]; split <;> omega
  refine Pure.of_sw 25 Tryd.func127 rfl Tryd.ntmps127 (by kernel_rfl) (Nat.le_of_ble_eq_true (by kernel_rfl)) (by simp [closeds, AV.closed, aSs_closed, aIs_closed, aBs_closed, aRs_closed, aDen_closed]) (by simp [AV.closed, closeds, aSs_closed, aIs_closed, aBs_closed, aRs_closed, aDen_closed]) ?_; refine SW.of_vc ?_
  iterate 2 refine codeStep ?_
  iterate 2 refine opsStep ?_
  iterate 3 refine codeStep ?_
  iterate 3 refine opsStep ?_
  refine VCode.join (b := decide ((n : Int) ≥ 4294967296)) (fr [(0, .int .u64 (cutN 4294967296 n : Nat)), (2, .int .i64 (addN 4294967296 32 n : Nat))]) [] (by kernel_rfl) (fun hz => ?_) (fun hz => ?_) (fun s₁ H₁ he => VCode.ent he ?_)
  · have hz : (n : Int) ≥ 4294967296 := of_decide_eq_true hz
    have hz : 4294967296 ≤ n := by omega
    repeat first | refine opsStep ?_ | refine codeStep ?_ | refine drawStep ?_
    refine Ent.fr' ⟨?_, ?_, trivial⟩ (by kernel_rfl)
    · show AV.int .u64 ((n : Int).fdiv (2 ^ (min ((32 : Nat) : Int).toNat 64))) = _
      rw [shr_nat n 32 (by omega), cutN, if_pos hz]
    · rw [addN, if_pos hz]; rfl
  · have hz : ¬ (n : Int) ≥ 4294967296 := of_decide_eq_false hz
    have hz : ¬ 4294967296 ≤ n := by omega
    repeat first | refine opsStep ?_ | refine codeStep ?_ | refine drawStep ?_
    refine Ent.fr' ⟨?_, ?_, trivial⟩ (by kernel_rfl)
    · rw [cutN, if_neg hz]; rfl
    · rw [addN, if_neg hz]; rfl
  simp only [lenN]
  have ha1 : addN 4294967296 32 n ≤ 32 := by rw [addN]; split <;> omega
  generalize cutN 4294967296 n = m at *
  generalize addN 4294967296 32 n = a at *
  iterate 3 refine codeStep ?_
  iterate 3 refine opsStep ?_
  refine VCode.join (b := decide ((m : Int) ≥ 65536)) (fr [(0, .int .u64 (cutN 65536 m : Nat)), (2, .int .i64 ((a + addN 65536 16 m : Nat) : Int))]) [] (by kernel_rfl) (fun hz => ?_) (fun hz => ?_) (fun s₁ H₁ he => VCode.ent he ?_)
  · have hz : (m : Int) ≥ 65536 := of_decide_eq_true hz
    have hz : 65536 ≤ m := by omega
    repeat first | refine opsStep ?_ | refine codeStep ?_ | refine drawStep ?_
    refine Ent.fr' ⟨?_, ?_, trivial⟩ (by kernel_rfl)
    · show AV.int .u64 ((m : Int).fdiv (2 ^ (min ((16 : Nat) : Int).toNat 64))) = _
      rw [shr_nat m 16 (by omega), cutN, if_pos hz]
    · show AV.int .i64 (IntKind.wrap .i64 ((a : Int) + 16)) = _
      rw [addN, if_pos hz, IntWalk.i64_in _ (by omega)]; rfl
  · have hz : ¬ (m : Int) ≥ 65536 := of_decide_eq_false hz
    have hz : ¬ 65536 ≤ m := by omega
    repeat first | refine opsStep ?_ | refine codeStep ?_ | refine drawStep ?_
    refine Ent.fr' ⟨?_, ?_, trivial⟩ (by kernel_rfl)
    · rw [cutN, if_neg hz]; rfl
    · rw [addN, if_neg hz]; rfl
  have ha2 : a + addN 65536 16 m ≤ 48 := by rw [addN]; split <;> omega
  generalize cutN 65536 m = n2 at *
  generalize a + addN 65536 16 m = a2 at *
  iterate 3 refine codeStep ?_
  iterate 3 refine opsStep ?_
  refine VCode.join (b := decide ((n2 : Int) ≥ 256)) (fr [(0, .int .u64 (cutN 256 n2 : Nat)), (2, .int .i64 ((a2 + addN 256 8 n2 : Nat) : Int))]) [] (by kernel_rfl) (fun hz => ?_) (fun hz => ?_) (fun s₁ H₁ he => VCode.ent he ?_)
  · have hz : (n2 : Int) ≥ 256 := of_decide_eq_true hz
    have hz : 256 ≤ n2 := by omega
    repeat first | refine opsStep ?_ | refine codeStep ?_ | refine drawStep ?_
    refine Ent.fr' ⟨?_, ?_, trivial⟩ (by kernel_rfl)
    · show AV.int .u64 ((n2 : Int).fdiv (2 ^ (min ((8 : Nat) : Int).toNat 64))) = _
      rw [shr_nat n2 8 (by omega), cutN, if_pos hz]
    · show AV.int .i64 (IntKind.wrap .i64 ((a2 : Int) + 8)) = _
      rw [addN, if_pos hz, IntWalk.i64_in _ (by omega)]; rfl
  · have hz : ¬ (n2 : Int) ≥ 256 := of_decide_eq_false hz
    have hz : ¬ 256 ≤ n2 := by omega
    repeat first | refine opsStep ?_ | refine codeStep ?_ | refine drawStep ?_
    refine Ent.fr' ⟨?_, ?_, trivial⟩ (by kernel_rfl)
    · rw [cutN, if_neg hz]; rfl
    · rw [addN, if_neg hz]; rfl
  have ha3 : a2 + addN 256 8 n2 ≤ 56 := by rw [addN]; split <;> omega
  generalize cutN 256 n2 = n3 at *
  generalize a2 + addN 256 8 n2 = a3 at *
  have hw : IntKind.wrap .u8 (n3 : Int) = n3 := IntWalk.u8_in _ (by omega)
  have hk := bitsN_le n3 b3
  repeat first | refine opsStep ?_ | refine codeStep ?_ | refine drawStep ?_
  refine guardE_of (p := isStr Tryd.prog 9 = true) (by kernel_rfl) ?_
  refine guardE_of (p := (0 : Int) ≤ IntKind.wrap .u8 n3) (by rw [hw]; omega) ?_
  refine optE_of (c := UInt8.ofNat (bitsN n3)) (by rw [hw]; exact tab_at _ (by kernel_rfl) n3 b3) ?_
  have hu : (UInt8.ofNat (bitsN n3)).toNat = bitsN n3 := by rw [UInt8.toNat_ofNat']; omega
  repeat first | refine opsStep ?_ | refine codeStep ?_ | refine drawStep ?_
  exact finV (v' := .int .i64 (IntKind.wrap .i64 ((a3 : Int) + IntKind.wrap .i64 ((UInt8.ofNat (bitsN n3)).toNat : Nat)))) (by kernel_rfl) (by
    rw [hu, IntWalk.i64_in (bitsN n3 : Nat) (by omega), IntWalk.i64_in _ (by omega)]; congr 1)

theorem inv_nonneg (v : Int) (h : -(2^63) ≤ v) (h2 : v < 0) : IntKind.wrap .i64 ((BitVec.ofInt 64 (-1) ^^^ BitVec.ofInt 64 v).toNat) = -1 - v := by
  have e : (BitVec.ofInt 64 (-1) ^^^ BitVec.ofInt 64 v) = ~~~ (BitVec.ofInt 64 v) := by
    rw [show BitVec.ofInt 64 (-1) = BitVec.allOnes 64 by rfl, BitVec.allOnes_xor]
  rw [e, BitVec.toNat_not, BitVec.toNat_ofInt]
  exact (congrArg (IntKind.wrap .i64) (by omega : _ = -1 - v)).trans (IntWalk.i64_in _ (by omega))

def absN (v : Int) : Nat := if v < 0 then (-1 - v).toNat else v.toNat
def lengthS (v : Int) : Nat := lenN (absN v) + 1
theorem absN_lt {v : Int} (h : -(2^63) ≤ v) (h2 : v < 2^63) : absN v < 2 ^ 63 := by rw [absN]; split <;> omega
theorem lengthS_le {v : Int} (h : -(2^63) ≤ v) (h2 : v < 2^63) : 1 ≤ lengthS v ∧ lengthS v ≤ 64 := by
  have := lenN_le (absN_lt h h2); rw [lengthS]; omega

def longS : Nat → List Int → Nat
  | n, [] => n
  | n, v :: l => longS (if lengthS v > n then lengthS v else n) l
theorem longS_bound : ∀ (l : List Int) (n : Nat), (∀ v ∈ l, -(2^63) ≤ v ∧ v < 2^63) → 1 ≤ n → n ≤ 64 → 1 ≤ longS n l ∧ longS n l ≤ 64
  | [], n, _, h1, h2 => ⟨h1, h2⟩
  | v :: l, n, h, h1, h2 => by
    have := lengthS_le (h v (by simp)).1 (h v (by simp)).2
    rw [longS]
    refine longS_bound l _ (fun x hx => h x (by simp [hx])) ?_ ?_ <;> split <;> omega

end Tab

/- Decoding: suffixes, widths, runs, counts. -/
namespace Tab
open Go Go.Proofs
set_option maxRecDepth 10000
set_option linter.unusedVariables false
set_option linter.unusedSimpArgs false
set_option linter.unusedSectionVars false

theorem bt_drop (s : List UInt8) (p i : Nat) : bt (s.drop p) i = bt s (p + i) := by simp [bt, List.getD_eq_getElem?_getD]
theorem ctb_drop (s : List UInt8) (p i : Nat) : ctb (s.drop p) i = ctb s (p + i) := by
  rw [ctb, ctb, bt_drop]
  congr 1
  simp only [List.length_drop]
  exact decide_eq_decide.2 (by omega)
theorem accR_drop (x : Int) (s : List UInt8) (p q : Nat) : ∀ n, accR x (s.drop p) q n = accR x s (p + q) n
  | 0 => rfl
  | n + 1 => by simp only [accR, accR_drop x s p q n, bt_drop]; simp only [Nat.add_assoc]

theorem dec_drop (s : List UInt8) (p q : Nat) : dec (s.drop p) q = dec s (p + q) := by
  rw [dec_def, dec_def]
  simp only [bt_drop, ctb_drop, Nat.add_assoc]
theorem dec_fits {s : List UInt8} {p : Nat} (hp : p < s.length) : p + (dec s p).2 ≤ s.length := by
  have hc : ∀ i, ctb s i = true → i < s.length := fun i h => (ctb_iff.1 h).1
  rw [dec_def]
  simp only [Bool.and_eq_true]
  repeat' split
  all_goals simp only
  all_goals first
    | omega
    | (rename_i h _; have := hc _ h.2; omega)

/-- The runes of a text, from its beginning, that are like this: how many bytes. -/
def runL (p : Int → Bool) : Nat → List UInt8 → Nat
  | 0, _ => 0
  | f + 1, s => if s.length = 0 then 0 else if p (dec s 0).1 = true then (dec s 0).2 + runL p f (s.drop (dec s 0).2) else 0
def runS (p : Int → Bool) (s : List UInt8) : Nat := runL p s.length s
def chL : Nat → List UInt8 → Nat
  | 0, _ => 0
  | f + 1, s => if s.length = 0 then 0 else 1 + chL f (s.drop (dec s 0).2)
def chS (s : List UInt8) : Nat := chL s.length s

theorem runL_fuel (p : Int → Bool) : ∀ (f g : Nat) (s : List UInt8), s.length ≤ f → s.length ≤ g → runL p f s = runL p g s
  | 0, 0, _, _, _ => rfl
  | 0, g + 1, s, h, _ => by rw [runL, runL, if_pos (by omega)]
  | f + 1, 0, s, _, h => by rw [runL, runL, if_pos (by omega)]
  | f + 1, g + 1, s, h1, h2 => by
    rw [runL, runL]
    by_cases hs : s.length = 0
    · rw [if_pos hs, if_pos hs]
    · have hw := dec_width s 0
      rw [if_neg hs, if_neg hs, runL_fuel p f g (s.drop (dec s 0).2) (by simp; omega) (by simp; omega)]
theorem chL_fuel : ∀ (f g : Nat) (s : List UInt8), s.length ≤ f → s.length ≤ g → chL f s = chL g s
  | 0, 0, _, _, _ => rfl
  | 0, g + 1, s, h, _ => by rw [chL, chL, if_pos (by omega)]
  | f + 1, 0, s, _, h => by rw [chL, chL, if_pos (by omega)]
  | f + 1, g + 1, s, h1, h2 => by
    rw [chL, chL]
    by_cases hs : s.length = 0
    · rw [if_pos hs, if_pos hs]
    · have hw := dec_width s 0
      rw [if_neg hs, if_neg hs, chL_fuel f g (s.drop (dec s 0).2) (by simp; omega) (by simp; omega)]
theorem runS_nil {p s} (h : s.length = 0) : runS p s = 0 := by rw [runS, h]; rfl
theorem runS_no {p s} (h : p (dec s 0).1 = false) : runS p s = 0 := by
  rw [runS]
  cases e : s.length with
  | zero => rfl
  | succ n => rw [runL, if_neg (by omega), if_neg (by simp [h])]
theorem runS_yes {p s} (hs : s.length ≠ 0) (h : p (dec s 0).1 = true) : runS p s = (dec s 0).2 + runS p (s.drop (dec s 0).2) := by
  have hw := dec_width s 0
  rw [runS]
  cases e : s.length with
  | zero => exact absurd e hs
  | succ n => rw [runL, if_neg (by omega), if_pos h, runS, runL_fuel p n _ _ (by simp; omega) (Nat.le_refl _)]
theorem chS_nil {s} (h : s.length = 0) : chS s = 0 := by rw [chS, h]; rfl
theorem chS_step {s} (hs : s.length ≠ 0) : chS s = 1 + chS (s.drop (dec s 0).2) := by
  have hw := dec_width s 0
  rw [chS]
  cases e : s.length with
  | zero => exact absurd e hs
  | succ n => rw [chL, if_neg (by omega), chS, chL_fuel n _ _ (by simp; omega) (Nat.le_refl _)]
theorem runS_le (p : Int → Bool) : ∀ (n : Nat) (s : List UInt8), s.length = n → runS p s ≤ s.length := by
  intro n
  induction n using Nat.strongRecOn with
  | _ n ih =>
    intro s hn
    by_cases hs : s.length = 0
    · rw [runS_nil hs]; omega
    · cases h : p (dec s 0).1 with
      | false => rw [runS_no h]; omega
      | true =>
        have hw := dec_width s 0
        have hf := dec_fits (s := s) (p := 0) (by omega)
        have := ih (s.drop (dec s 0).2).length (by simp; omega) (s.drop (dec s 0).2) rfl
        rw [runS_yes hs h]
        simp at this
        omega
theorem chS_le : ∀ (n : Nat) (s : List UInt8), s.length = n → chS s ≤ s.length := by
  intro n
  induction n using Nat.strongRecOn with
  | _ n ih =>
    intro s hn
    by_cases hs : s.length = 0
    · rw [chS_nil hs]; omega
    · have hw := dec_width s 0
      have hf := dec_fits (s := s) (p := 0) (by omega)
      have := ih (s.drop (dec s 0).2).length (by simp; omega) (s.drop (dec s 0).2) rfl
      rw [chS_step hs]
      simp at this
      omega

theorem dec_ascii {s : List UInt8} {p : Nat} (h : bt s p < 128) : dec s p = (bt s p, 1) := by
  rw [dec_def, if_pos h]
theorem dec_small {s : List UInt8} {p : Nat} (h : (dec s p).1 < 128) : bt s p < 128 := by
  by_cases hb : bt s p < 128
  · exact hb
  · exfalso
    rw [dec_def, if_neg hb] at h
    simp only at h
    repeat' split at h
    all_goals first
      | (simp at h; done)
      | (rename_i hc; simp only [Bool.and_eq_true, decide_eq_true_eq, ge_iff_le] at hc; simp only at h; omega)

end Tab

/- Words of a formula's text: what the lexer reads. Plain. -/
namespace Tab
open Go
set_option maxRecDepth 10000
set_option linter.unusedVariables false
set_option linter.unusedSimpArgs false
set_option linter.unusedSectionVars false

abbrev Str := List UInt8
def blankR (r : Int) : Bool := decide (r = 32) || decide (r = 9) || decide (r = 10) || decide (r = 13)
def digR (r : Int) : Bool := decide (48 ≤ r) && decide (r ≤ 57)
def plainT : List (Int × Str) := [(8804, [60, 61]), (8805, [62, 61]), (8800, [33, 61]), (8801, [126]), (8722, [45]), (183, [42]), (8594, [45, 62]), (8596, [60, 45, 62]), (8743, [97, 110, 100]), (8744, [111, 114]), (172, [110, 111, 116]), (8707, [101, 120]), (8704, [97, 108, 108])]
def plainS (r : Int) : Str := ((plainT.find? fun p => decide (r = p.1)).map (·.2)).getD []
def signL : List Str := [[60, 45, 62], [60, 61], [62, 61], [33, 61], [45, 62], [40], [41], [91], [93], [44], [46], [43], [45], [42], [61], [60], [62], [126]]
def numL : Nat → Str → Option Nat
  | n, [] => some n
  | n, c :: t => if n > (9223372036854775807 - (c.toNat - 48)) / 10 then none else numL (10 * n + (c.toNat - 48)) t
def numS (t : Str) : Option Nat := numL 0 t
structure Tok where
  kind : Int
  text : Str
  num : Nat
  n : Nat
  err : Int
def tokBad (e : Int) : Tok := ⟨0, [], 0, 0, e⟩
def nameT (t : Str) (n : Nat) : Tok := if resS t = true then ⟨2, t, 0, n, 0⟩ else if 16 < chS t then ⟨0, [], 0, n, 6⟩ else ⟨0, t, 0, n, 0⟩
def signT (s : Str) : Tok := match signL.find? fun t => t.isPrefixOf s with
  | some t => ⟨2, t, 0, t.length, 0⟩
  | none => tokBad 51
def tokS (s : Str) : Tok :=
  if (dec s 0).1 = 65533 ∧ (dec s 0).2 ≤ 1 then tokBad 50
  else if startR (dec s 0).1 = true then nameT (s.take (runS restR s)) (runS restR s)
  else if digR (dec s 0).1 = true then (match numS (s.take (runS digR s)) with
    | some v => ⟨1, [], v, runS digR s, 0⟩
    | none => tokBad 52)
  else if plainS (dec s 0).1 ≠ [] then ⟨2, plainS (dec s 0).1, 0, (dec s 0).2, 0⟩
  else signT s
structure Wd where
  kind : Int
  text : Str
  num : Nat
  at' : Nat
  ch : Nat
structure Flt where
  why : Int
  at' : Nat
  ch : Nat
def flt0 : Flt := ⟨0, 0, 0⟩
/-- The words from a place on, or the fault. -/
def lexL (s : Str) : Nat → Nat → Nat → Nat → List Wd × Flt
  | 0, _, _, _ => ([], flt0)
  | f + 1, a, ch, ct => if s.length ≤ a then ([], flt0) else
    let c := ch + chS ((s.take a).drop ct)
    let t := tokS (s.drop a)
    if t.err ≠ 0 then ([], ⟨t.err, a, c⟩) else
    let r := lexL s f (a + t.n + runS blankR (s.drop (a + t.n))) c a
    if r.2.why ≠ 0 then ([], r.2) else (⟨t.kind, t.text, t.num, a, c⟩ :: r.1, r.2)
def lexS (s : Str) : List Wd × Flt := if 4096 < s.length then ([], ⟨70, 0, 0⟩) else lexL s (s.length + 1) (runS blankR s) 0 0

end Tab

/- Decoding at cuts: plain. -/
namespace Tab
open Go
set_option maxRecDepth 10000
set_option linter.unusedVariables false
set_option linter.unusedSimpArgs false
set_option linter.unusedSectionVars false

theorem bt_take {s : Str} {m i : Nat} (h : i < m) : bt (s.take m) i = bt s i := by
  rw [bt, bt, List.getD_eq_getElem?_getD, List.getD_eq_getElem?_getD, List.getElem?_take_of_lt h]
theorem ctb_take {s : Str} {m i : Nat} (h : i < m) : ctb (s.take m) i = ctb s i := by
  rw [ctb, ctb, bt_take h, List.length_take]
  congr 1
  exact decide_eq_decide.2 (by omega)
theorem ctb_cut {s : Str} {m i : Nat} (h : m ≤ i) : ctb (s.take m) i = false := by
  rw [ctb, decide_eq_false (by rw [List.length_take]; omega)]; rfl
theorem dec_take {s : Str} {m p : Nat} (hm : p + (dec s p).2 ≤ m) : dec (s.take m) p = dec s p := by
  have hw := (dec_width s p).1
  have hp : p < m := by omega
  rw [dec_def (s.take m), bt_take hp]
  rw [dec_def s] at hm
  by_cases h0 : bt s p < 0x80
  · rw [if_pos h0, dec_def s, if_pos h0]
  rw [if_neg h0] at hm
  rw [if_neg h0, dec_def s, if_neg h0]
  have cut : ∀ i, ctb (s.take m) i = true → ctb s i = true := fun i h => by
    by_cases e : i < m
    · rwa [ctb_take e] at h
    · rw [ctb_cut (by omega)] at h; cases h
  have one : ∀ {b : Bool} {x y : Nat × Nat}, b = true → (if b = true then x else y) = x := fun h => by rw [if_pos h]
  by_cases h1 : (bt s p / 32 == 6 && ctb s (p + 1)) = true
  · rw [if_pos h1] at hm ⊢
    by_cases hc : (bt s p % 32) * 64 + bt s (p + 1) % 64 ≥ 0x80
    · simp only [if_pos hc] at hm ⊢
      rw [bt_take (by omega), ctb_take (by omega), if_pos h1, if_pos hc]
    · simp only [if_neg hc] at hm ⊢
      by_cases e : p + 1 < m
      · rw [bt_take e, ctb_take e, if_pos h1, if_neg hc]
      · simp only [ctb_cut (s := s) (m := m) (i := p + 1) (by omega), Bool.and_false, Bool.false_and, Bool.false_eq_true, if_false]
  · have h1' : ¬ (bt s p / 32 == 6 && ctb (s.take m) (p + 1)) = true := fun h => h1 (by
      simp only [Bool.and_eq_true] at h ⊢; exact ⟨h.1, cut _ h.2⟩)
    rw [if_neg h1] at hm ⊢
    rw [if_neg h1']
    by_cases h2 : (bt s p / 16 == 14 && ctb s (p + 1) && ctb s (p + 2)) = true
    · rw [if_pos h2] at hm ⊢
      by_cases hc : (decide ((bt s p % 16) * 4096 + (bt s (p + 1) % 64) * 64 + bt s (p + 2) % 64 ≥ 0x800) && okc ((bt s p % 16) * 4096 + (bt s (p + 1) % 64) * 64 + bt s (p + 2) % 64)) = true
      · simp only [if_pos hc] at hm ⊢
        rw [bt_take (show p + 1 < m by omega), ctb_take (show p + 1 < m by omega), bt_take (show p + 2 < m by omega), ctb_take (show p + 2 < m by omega), if_pos h2, if_pos hc]
      · simp only [if_neg hc] at hm ⊢
        by_cases e : p + 2 < m
        · rw [bt_take (show p + 1 < m by omega), ctb_take (show p + 1 < m by omega), bt_take e, ctb_take e, if_pos h2, if_neg hc]
        · have h8 : (bt s p / 16 == 14) = true := by simp only [Bool.and_eq_true] at h2; exact h2.1.1
          have h9 : (bt s p / 8 == 30) = false := by
            rw [beq_iff_eq] at h8; rw [beq_eq_false_iff_ne]; omega
          simp only [ctb_cut (s := s) (m := m) (i := p + 2) (by omega), h9, Bool.and_false, Bool.false_and, Bool.false_eq_true, if_false]
    · have h2' : ¬ (bt s p / 16 == 14 && ctb (s.take m) (p + 1) && ctb (s.take m) (p + 2)) = true := fun h => h2 (by
        simp only [Bool.and_eq_true] at h ⊢; exact ⟨⟨h.1.1, cut _ h.1.2⟩, cut _ h.2⟩)
      rw [if_neg h2] at hm ⊢
      rw [if_neg h2']
      by_cases h3 : (bt s p / 8 == 30 && ctb s (p + 1) && ctb s (p + 2) && ctb s (p + 3)) = true
      · rw [if_pos h3] at hm ⊢
        by_cases hc : (decide ((bt s p % 8) * 262144 + (bt s (p + 1) % 64) * 4096 + (bt s (p + 2) % 64) * 64 + bt s (p + 3) % 64 ≥ 0x10000) && okc ((bt s p % 8) * 262144 + (bt s (p + 1) % 64) * 4096 + (bt s (p + 2) % 64) * 64 + bt s (p + 3) % 64)) = true
        · simp only [if_pos hc] at hm ⊢
          rw [bt_take (show p + 1 < m by omega), ctb_take (show p + 1 < m by omega), bt_take (show p + 2 < m by omega), ctb_take (show p + 2 < m by omega), bt_take (show p + 3 < m by omega), ctb_take (show p + 3 < m by omega), if_pos h3, if_pos hc]
        · simp only [if_neg hc] at hm ⊢
          by_cases e : p + 3 < m
          · rw [bt_take (show p + 1 < m by omega), ctb_take (show p + 1 < m by omega), bt_take (show p + 2 < m by omega), ctb_take (show p + 2 < m by omega), bt_take e, ctb_take e, if_pos h3, if_neg hc]
          · simp only [ctb_cut (s := s) (m := m) (i := p + 3) (by omega), Bool.and_false, Bool.false_and, Bool.false_eq_true, if_false]
      · have h3' : ¬ (bt s p / 8 == 30 && ctb (s.take m) (p + 1) && ctb (s.take m) (p + 2) && ctb (s.take m) (p + 3)) = true := fun h => h3 (by
          simp only [Bool.and_eq_true] at h ⊢; exact ⟨⟨⟨h.1.1.1, cut _ h.1.1.2⟩, cut _ h.1.2⟩, cut _ h.2⟩)
        rw [if_neg h3] at hm ⊢
        rw [if_neg h3']
/-- A character ends ahead of each later byte that begins one of its own. -/
theorem dec_stop {s : Str} {m p : Nat} (hp : p < m) (hm : bt s m < 128) : p + (dec s p).2 ≤ m := by
  have hc : ∀ i, ctb s i = true → i ≠ m := fun i h e => by
    have := (ctb_iff.1 h).2
    subst e; omega
  rw [dec_def]
  simp only [Bool.and_eq_true]
  repeat' split
  all_goals simp only
  all_goals first
    | omega
    | (rename_i h _; have h1 := hc _ h.2; omega)
    | (rename_i h _; have h1 := hc _ h.2; have h2 := hc _ h.1.2; omega)
    | (rename_i h _; have h1 := hc _ h.2; have h2 := hc _ h.1.2; have h3 := hc _ h.1.1.2; omega)

end Tab

/- Runs and counts of characters at cuts: plain. -/
namespace Tab
open Go
set_option maxRecDepth 10000
set_option linter.unusedVariables false
set_option linter.unusedSimpArgs false
set_option linter.unusedSectionVars false

theorem dec_cut {s : Str} {m p : Nat} (h1 : p < m) (h2 : m < p + (dec s p).2) : dec (s.take m) p = (65533, 1) := by
  rw [dec_def (s.take m), bt_take h1]
  rw [dec_def s] at h2
  by_cases h0 : bt s p < 0x80
  · rw [if_pos h0] at h2; simp only at h2; omega
  rw [if_neg h0] at h2 ⊢
  by_cases e1 : (bt s p / 32 == 6 && ctb s (p + 1)) = true
  · rw [if_pos e1] at h2
    have h8 : bt s p / 32 = 6 := by simp only [Bool.and_eq_true, beq_iff_eq] at e1; exact e1.1
    have c1 : ctb (s.take m) (p + 1) = false := by
      by_cases hc : (bt s p % 32) * 64 + bt s (p + 1) % 64 ≥ 0x80
      · simp only [if_pos hc] at h2; exact ctb_cut (by omega)
      · simp only [if_neg hc] at h2; omega
    have h9 : (bt s p / 16 == 14) = false := by rw [beq_eq_false_iff_ne]; omega
    have h10 : (bt s p / 8 == 30) = false := by rw [beq_eq_false_iff_ne]; omega
    simp only [c1, h9, h10, Bool.and_false, Bool.false_and, Bool.false_eq_true, if_false]
  · rw [if_neg e1] at h2
    by_cases e2 : (bt s p / 16 == 14 && ctb s (p + 1) && ctb s (p + 2)) = true
    · rw [if_pos e2] at h2
      have h8 : bt s p / 16 = 14 := by simp only [Bool.and_eq_true, beq_iff_eq] at e2; exact e2.1.1
      have c1 : ctb (s.take m) (p + 2) = false := by
        by_cases hc : (decide ((bt s p % 16) * 4096 + (bt s (p + 1) % 64) * 64 + bt s (p + 2) % 64 ≥ 0x800) && okc ((bt s p % 16) * 4096 + (bt s (p + 1) % 64) * 64 + bt s (p + 2) % 64)) = true
        · simp only [if_pos hc] at h2; exact ctb_cut (by omega)
        · simp only [if_neg hc] at h2; omega
      have h9 : (bt s p / 32 == 6) = false := by rw [beq_eq_false_iff_ne]; omega
      have h10 : (bt s p / 8 == 30) = false := by rw [beq_eq_false_iff_ne]; omega
      simp only [c1, h9, h10, Bool.and_false, Bool.false_and, Bool.false_eq_true, if_false]
    · rw [if_neg e2] at h2
      by_cases e3 : (bt s p / 8 == 30 && ctb s (p + 1) && ctb s (p + 2) && ctb s (p + 3)) = true
      · rw [if_pos e3] at h2
        have h8 : bt s p / 8 = 30 := by simp only [Bool.and_eq_true, beq_iff_eq] at e3; exact e3.1.1.1
        have c1 : ctb (s.take m) (p + 3) = false := by
          by_cases hc : (decide ((bt s p % 8) * 262144 + (bt s (p + 1) % 64) * 4096 + (bt s (p + 2) % 64) * 64 + bt s (p + 3) % 64 ≥ 0x10000) && okc ((bt s p % 8) * 262144 + (bt s (p + 1) % 64) * 4096 + (bt s (p + 2) % 64) * 64 + bt s (p + 3) % 64)) = true
          · simp only [if_pos hc] at h2; exact ctb_cut (by omega)
          · simp only [if_neg hc] at h2; omega
        have h9 : (bt s p / 32 == 6) = false := by rw [beq_eq_false_iff_ne]; omega
        have h10 : (bt s p / 16 == 14) = false := by rw [beq_eq_false_iff_ne]; omega
        simp only [c1, h9, h10, Bool.and_false, Bool.false_and, Bool.false_eq_true, if_false]
      · rw [if_neg e3] at h2; simp only at h2; omega
theorem take_drop' (s : Str) (k w : Nat) : (s.take k).drop w = (s.drop w).take (k - w) := List.drop_take ..
/-- A run is the same wherever the text is cut behind it. -/
theorem runS_take (p : Int → Bool) (hp : p 65533 = false) : ∀ (n : Nat) (s : Str) (k : Nat), s.length = n → runS p s ≤ k → runS p (s.take k) = runS p s := by
  intro n
  induction n using Nat.strongRecOn with
  | _ n ih =>
    intro s k hn hk
    by_cases hs : s.length = 0
    · rw [runS_nil hs, runS_nil (by rw [List.length_take]; omega)]
    · have hw := dec_width s 0
      cases h : p (dec s 0).1 with
      | true =>
        rw [runS_yes hs h] at hk ⊢
        have hd : dec (s.take k) 0 = dec s 0 := dec_take (by omega)
        rw [runS_yes (by rw [List.length_take]; omega) (by rw [hd]; exact h), hd, take_drop', ih (s.drop (dec s 0).2).length (by simp; omega) _ _ rfl (by omega)]
      | false =>
        rw [runS_no h]
        by_cases h0 : k = 0
        · subst h0; exact runS_nil (by simp)
        · refine runS_no ?_
          by_cases e : (dec s 0).2 ≤ k
          · rw [dec_take (by omega)]; exact h
          · rw [dec_cut (by omega) (by omega)]; exact hp
/-- A place at which a character begins, or the end. -/
inductive Bd : Str → Nat → Prop
  | zero (s) : Bd s 0
  | step {s a} (hs : s.length ≠ 0) (h : Bd (s.drop (dec s 0).2) a) : Bd s ((dec s 0).2 + a)
theorem Bd.le {s : Str} {a : Nat} (h : Bd s a) : a ≤ s.length := by
  induction h with
  | zero => omega
  | @step s a hs h ih => have := dec_fits (s := s) (p := 0) (by omega); rw [List.length_drop] at ih; omega
theorem Bd.trans {s : Str} {a b : Nat} (h : Bd s a) (h2 : Bd (s.drop a) b) : Bd s (a + b) := by
  induction h with
  | zero => simpa using h2
  | step hs h ih =>
    rw [Nat.add_assoc]
    exact .step hs (ih (by rwa [List.drop_drop]))
theorem Bd.take {s : Str} {b a : Nat} (h : Bd s b) (hb : b ≤ a) : Bd (s.take a) b := by
  induction h generalizing a with
  | zero => exact .zero _
  | @step s b hs h ih =>
    have hd : dec (s.take a) 0 = dec s 0 := dec_take (by omega)
    have hw := dec_width s 0
    have := Bd.step (s := s.take a) (a := b) (by rw [List.length_take]; omega) (by rw [hd, take_drop']; exact ih (by omega))
    rwa [hd] at this
theorem chS_split {s : Str} {a : Nat} (h : Bd s a) : chS s = chS (s.take a) + chS (s.drop a) := by
  induction h with
  | zero s => rw [List.take_zero, chS_nil (s := []) rfl, List.drop_zero, Nat.zero_add]
  | @step s a hs h ih =>
    have hd : dec (s.take ((dec s 0).2 + a)) 0 = dec s 0 := dec_take (by omega)
    have hw := dec_width s 0
    rw [chS_step hs, chS_step (s := s.take ((dec s 0).2 + a)) (by rw [List.length_take]; omega), hd, take_drop', Nat.add_sub_cancel_left, ih, List.drop_drop]
    omega
theorem bd_run (p : Int → Bool) : ∀ (n : Nat) (s : Str), s.length = n → Bd s (runS p s) := by
  intro n
  induction n using Nat.strongRecOn with
  | _ n ih =>
    intro s hn
    by_cases hs : s.length = 0
    · rw [runS_nil hs]; exact .zero _
    · have hw := dec_width s 0
      cases h : p (dec s 0).1 with
      | false => rw [runS_no h]; exact .zero _
      | true => rw [runS_yes hs h]; exact .step hs (ih _ (by simp; omega) _ rfl)
theorem bd_ascii : ∀ {t s : Str}, t.isPrefixOf s = true → (∀ c ∈ t, c.toNat < 128) → Bd s t.length
  | [], s, _, _ => .zero _
  | c :: t, [], h, _ => by simp [List.isPrefixOf] at h
  | c :: t, c' :: s, h, hc => by
    simp only [List.isPrefixOf, Bool.and_eq_true, beq_iff_eq] at h
    obtain ⟨rfl, h⟩ := h
    have hd : dec (c :: s) 0 = (bt (c :: s) 0, 1) := dec_ascii (hc c (by simp))
    have := Bd.step (s := c :: s) (a := t.length) (by simp) (by rw [hd]; exact bd_ascii h fun x hx => hc x (by simp [hx]))
    rw [hd] at this
    rw [List.length_cons, Nat.add_comm]
    exact this

end Tab

/- A word of a text hangs on its own bytes: plain. -/
namespace Tab
open Go
set_option maxRecDepth 10000
set_option linter.unusedVariables false
set_option linter.unusedSimpArgs false
set_option linter.unusedSectionVars false

theorem blank_run : digR 32 = false ∧ restR 32 = false ∧ digR 65533 = false ∧ restR 65533 = false ∧ blankR 65533 = false := by
  refine ⟨by decide, ?_, by decide, ?_, by decide⟩
  · unfold restR startR; decide
  · unfold restR startR; decide
theorem start_rest {r : Int} (h : startR r = true) : restR r = true := by unfold restR; rw [h]; rfl
theorem dec_join {x y : Str} (hx : x.length ≠ 0) : dec (x ++ 32 :: y) 0 = dec x 0 := by
  have hb : bt (x ++ 32 :: y) x.length < 128 := by simp [bt]
  have hs := dec_stop (s := x ++ 32 :: y) (m := x.length) (p := 0) (by omega) hb
  have := dec_take (s := x ++ 32 :: y) (m := x.length) (p := 0) hs
  rw [List.take_left] at this
  exact this.symm
theorem run_join (p : Int → Bool) (hp : p 32 = false) (y : Str) : ∀ (n : Nat) (x : Str), x.length = n → runS p (x ++ 32 :: y) = runS p x := by
  intro n
  induction n using Nat.strongRecOn with
  | _ n ih =>
    intro x hn
    by_cases hs : x.length = 0
    · have : x = [] := List.length_eq_zero_iff.1 hs
      subst this
      rw [runS_nil (s := ([] : Str)) rfl]
      exact runS_no (by rw [List.nil_append, dec_ascii (by simp [bt])]; simpa [bt] using hp)
    · have hd := dec_join (y := y) hs
      have hw := dec_width x 0
      have hf := dec_fits (s := x) (p := 0) (by omega)
      cases h : p (dec x 0).1 with
      | false => rw [runS_no h, runS_no (by rw [hd]; exact h)]
      | true => rw [runS_yes hs h, runS_yes (by simp) (by rw [hd]; exact h), hd, List.drop_append_of_le_length (by omega), ih _ (by simp; omega) _ rfl]
theorem pre_join {t : Str} (ht : (32 : UInt8) ∉ t) (y : Str) : ∀ (x : Str), t.isPrefixOf (x ++ 32 :: y) = t.isPrefixOf x := by
  induction t with
  | nil => intro x; simp [List.isPrefixOf]
  | cons c t ih =>
    intro x
    cases x with
    | nil =>
      have : (c == 32) = false := by rw [beq_eq_false_iff_ne]; intro e; exact ht (by simp [e])
      simp [List.isPrefixOf, this]
    | cons d x =>
      simp only [List.cons_append, List.isPrefixOf]
      rw [ih (fun h => ht (by simp [h]))]
theorem find_congr {α : Type} {f g : α → Bool} : ∀ {l : List α}, (∀ a ∈ l, f a = g a) → l.find? f = l.find? g
  | [], _ => rfl
  | a :: l, h => by
    rw [List.find?_cons, List.find?_cons, h a (by simp), find_congr fun b hb => h b (by simp [hb])]
theorem sign_chars : ∀ t ∈ signL, (32 : UInt8) ∉ t ∧ (∀ c ∈ t, c.toNat < 128) ∧ t ≠ [] := by decide
theorem signT_join (x y : Str) : signT (x ++ 32 :: y) = signT x := by
  rw [signT, signT, find_congr (g := fun t => t.isPrefixOf x) fun t ht => pre_join (sign_chars t ht).1 y x]
theorem tok_join {x : Str} (hx : x.length ≠ 0) (y : Str) : tokS (x ++ 32 :: y) = tokS x := by
  have hr := run_join restR blank_run.2.1 y _ x rfl
  have hg := run_join digR blank_run.1 y _ x rfl
  have l1 := runS_le restR _ x rfl
  have l2 := runS_le digR _ x rfl
  rw [tokS, tokS, dec_join hx, hr, hg, List.take_append_of_le_length l1, List.take_append_of_le_length l2, signT_join]

theorem pre_take {t : Str} : ∀ {x : Str} {k : Nat}, t.length ≤ k → t.isPrefixOf (x.take k) = t.isPrefixOf x := by
  induction t with
  | nil => intro x k _; simp [List.isPrefixOf]
  | cons c t ih =>
    intro x k hk
    cases x with
    | nil => simp
    | cons d x =>
      obtain ⟨j, rfl⟩ : ∃ j, k = j + 1 := ⟨k - 1, by simp at hk; omega⟩
      simp only [List.take_succ_cons, List.isPrefixOf]
      rw [ih (by simp at hk; omega)]
theorem pre_of_take {t : Str} : ∀ {x : Str} {k : Nat}, t.isPrefixOf (x.take k) = true → t.isPrefixOf x = true := by
  induction t with
  | nil => intro x k _; simp [List.isPrefixOf]
  | cons c t ih =>
    intro x k h
    cases x with
    | nil => simp at h
    | cons d x =>
      cases k with
      | zero => simp [List.isPrefixOf] at h
      | succ k =>
        simp only [List.take_succ_cons, List.isPrefixOf, Bool.and_eq_true] at h ⊢
        exact ⟨h.1, ih h.2⟩
theorem find_take {x : Str} {k : Nat} : ∀ {l : List Str} {t : Str}, (l.find? fun t => t.isPrefixOf x) = some t → t.length ≤ k → (l.find? fun t => t.isPrefixOf (x.take k)) = some t
  | [], _, h, _ => by simp at h
  | a :: l, t, h, hk => by
    rw [List.find?_cons] at h ⊢
    cases ha : a.isPrefixOf x with
    | true =>
      simp only [ha] at h
      cases h
      simp only [pre_take hk, ha]
    | false =>
      simp only [ha] at h
      cases hb : a.isPrefixOf (x.take k) with
      | true => rw [pre_of_take hb] at ha; cases ha
      | false => simp only [hb]; exact find_take h hk
theorem sign_ok {x : Str} (h : (signT x).err = 0) : ∃ t ∈ signL, t.isPrefixOf x = true ∧ signT x = ⟨2, t, 0, t.length, 0⟩ ∧ (signL.find? fun t => t.isPrefixOf x) = some t := by
  rw [signT] at h ⊢
  cases e : (signL.find? fun t => t.isPrefixOf x) with
  | none => rw [e] at h; simp [tokBad] at h
  | some t => exact ⟨t, List.mem_of_find?_eq_some e, List.find?_some (p := fun t : Str => t.isPrefixOf x) e, rfl, rfl⟩
theorem run_first {p : Int → Bool} {x : Str} (hx : x.length ≠ 0) (h : p (dec x 0).1 = true) : (dec x 0).2 ≤ runS p x := by rw [runS_yes hx h]; omega
theorem nameT_n (t : Str) (n : Nat) : (nameT t n).n = n := by rw [nameT]; split; rfl; split <;> rfl
/-- A word's bytes are whole characters, and the word is the same wherever the text is cut behind it. -/
theorem tok_cut {x : Str} (hx : x.length ≠ 0) (h : (tokS x).err = 0) : Bd x (tokS x).n ∧ 1 ≤ (tokS x).n ∧ ∀ k, (tokS x).n ≤ k → tokS (x.take k) = tokS x := by
  have hw := dec_width x 0
  rw [tokS] at h ⊢
  by_cases h1 : (dec x 0).1 = 65533 ∧ (dec x 0).2 ≤ 1
  · rw [if_pos h1] at h; simp [tokBad] at h
  rw [if_neg h1] at h ⊢
  by_cases h2 : startR (dec x 0).1 = true
  · rw [if_pos h2] at h ⊢
    rw [nameT_n]
    have hf := run_first hx (start_rest h2)
    refine ⟨bd_run restR _ x rfl, by omega, fun k hk => ?_⟩
    rw [tokS, dec_take (by omega), if_neg h1, if_pos h2, runS_take restR blank_run.2.2.2.1 _ x k rfl hk, List.take_take, Nat.min_eq_left hk]
  rw [if_neg h2] at h ⊢
  by_cases h3 : digR (dec x 0).1 = true
  · rw [if_pos h3] at h ⊢
    have hf := run_first hx h3
    cases e : numS (x.take (runS digR x)) with
    | none => rw [e] at h; simp [tokBad] at h
    | some v =>
      simp only
      refine ⟨bd_run digR _ x rfl, by omega, fun k hk => ?_⟩
      rw [tokS, dec_take (by omega), if_neg h1, if_neg h2, if_pos h3, runS_take digR blank_run.2.2.1 _ x k rfl hk, List.take_take, Nat.min_eq_left hk, e]
  rw [if_neg h3] at h ⊢
  by_cases h4 : plainS (dec x 0).1 ≠ []
  · rw [if_pos h4]
    refine ⟨.step (a := 0) hx (.zero _), by simp only; omega, fun k hk => ?_⟩
    simp only at hk
    rw [tokS, dec_take (by omega), if_neg h1, if_neg h2, if_neg h3, if_pos h4]
  rw [if_neg h4] at h ⊢
  obtain ⟨t, ht, hp, e, hf⟩ := sign_ok h
  obtain ⟨_, hc, hne⟩ := sign_chars t ht
  rw [e]
  have hl : 1 ≤ t.length := by cases t with | nil => exact absurd rfl hne | cons => simp
  refine ⟨bd_ascii hp hc, hl, fun k hk => ?_⟩
  have hw1 : (dec x 0).2 = 1 := by
    cases t with
    | nil => exact absurd rfl hne
    | cons c t =>
      cases x with
      | nil => simp at hx
      | cons d x =>
        simp only [List.isPrefixOf, Bool.and_eq_true, beq_iff_eq] at hp
        have : bt (d :: x) 0 < 128 := by rw [← hp.1]; exact hc c (by simp)
        rw [dec_ascii this]
  simp only at hk
  rw [tokS, dec_take (by omega), if_neg h1, if_neg h2, if_neg h3, if_neg h4, signT, find_take hf hk]

end Tab

/- The words of a text from a place on: plain. -/
namespace Tab
open Go
set_option maxRecDepth 10000
set_option linter.unusedVariables false
set_option linter.unusedSimpArgs false
set_option linter.unusedSectionVars false

def lexQ : Nat → Str → Nat → Nat → List Wd × Flt
  | 0, _, _, _ => ([], flt0)
  | f + 1, x, a, ch => if (x.drop (runS blankR x)).length = 0 then ([], flt0)
    else if (tokS (x.drop (runS blankR x))).err ≠ 0 then ([], ⟨(tokS (x.drop (runS blankR x))).err, a + runS blankR x, ch + chS (x.take (runS blankR x))⟩)
    else (⟨(tokS (x.drop (runS blankR x))).kind, (tokS (x.drop (runS blankR x))).text, (tokS (x.drop (runS blankR x))).num, a + runS blankR x, ch + chS (x.take (runS blankR x))⟩ ::
        (lexQ f ((x.drop (runS blankR x)).drop (tokS (x.drop (runS blankR x))).n) (a + runS blankR x + (tokS (x.drop (runS blankR x))).n) (ch + chS (x.take (runS blankR x)) + chS ((x.drop (runS blankR x)).take (tokS (x.drop (runS blankR x))).n))).1,
      (lexQ f ((x.drop (runS blankR x)).drop (tokS (x.drop (runS blankR x))).n) (a + runS blankR x + (tokS (x.drop (runS blankR x))).n) (ch + chS (x.take (runS blankR x)) + chS ((x.drop (runS blankR x)).take (tokS (x.drop (runS blankR x))).n))).2)
theorem lexQ_fuel : ∀ (f g : Nat) (x : Str) (a ch : Nat), x.length < f → x.length < g → lexQ f x a ch = lexQ g x a ch
  | 0, _, _, _, _, h, _ => by omega
  | _, 0, _, _, _, _, h => by omega
  | f + 1, g + 1, x, a, ch, h1, h2 => by
    rw [lexQ, lexQ]
    by_cases e0 : (x.drop (runS blankR x)).length = 0
    · rw [if_pos e0, if_pos e0]
    rw [if_neg e0, if_neg e0]
    by_cases e1 : (tokS (x.drop (runS blankR x))).err ≠ 0
    · rw [if_pos e1, if_pos e1]
    rw [if_neg e1, if_neg e1]
    have hc := (tok_cut e0 (Decidable.of_not_not e1)).2.1
    rw [lexQ_fuel f g _ _ _ (by simp at *; omega) (by simp at *; omega)]
def lexW (x : Str) (a ch : Nat) : List Wd × Flt := lexQ (x.length + 1) x a ch
/-- What a text is made of: blanks, a word, the rest. -/
structure Part (x : Str) (b : Nat) (x1 : Str) (t : Tok) : Prop where
  run : runS blankR x = b
  rest : x.drop b = x1
  some : x1.length ≠ 0
  tok : tokS x1 = t
theorem part_of (x : Str) : (runS blankR x = x.length) ∨ Part x (runS blankR x) (x.drop (runS blankR x)) (tokS (x.drop (runS blankR x))) := by
  have := runS_le blankR _ x rfl
  by_cases h : runS blankR x = x.length
  · exact .inl h
  · exact .inr ⟨rfl, rfl, by rw [List.length_drop]; omega, rfl⟩
theorem lexW_nil {x : Str} (h : runS blankR x = x.length) (a ch : Nat) : lexW x a ch = ([], flt0) := by
  rw [lexW, lexQ, if_pos (by rw [List.length_drop]; omega)]
theorem lexW_bad {x : Str} {b x1 t} (h : Part x b x1 t) (he : t.err ≠ 0) (a ch : Nat) : lexW x a ch = ([], ⟨t.err, a + b, ch + chS (x.take b)⟩) := by
  obtain ⟨rfl, rfl, h3, rfl⟩ := h
  rw [lexW, lexQ, if_neg h3, if_pos he]
theorem lexW_tok {x : Str} {b x1 t} (h : Part x b x1 t) (he : t.err = 0) (a ch : Nat) : lexW x a ch =
    (⟨t.kind, t.text, t.num, a + b, ch + chS (x.take b)⟩ :: (lexW (x1.drop t.n) (a + b + t.n) (ch + chS (x.take b) + chS (x1.take t.n))).1, (lexW (x1.drop t.n) (a + b + t.n) (ch + chS (x.take b) + chS (x1.take t.n))).2) := by
  obtain ⟨rfl, rfl, h3, rfl⟩ := h
  have hc := (tok_cut h3 he).2.1
  rw [lexW, lexQ, if_neg h3, if_neg (by rw [he]; simp)]
  rw [lexQ_fuel x.length _ _ _ _ (by simp at *; omega) (Nat.lt_succ_self _)]
  rfl
theorem Part.bd {x : Str} {b x1 t} (h : Part x b x1 t) : Bd x b := by obtain ⟨rfl, _⟩ := h; exact bd_run blankR _ x rfl
theorem Part.lt {x : Str} {b x1 t} (h : Part x b x1 t) : b < x.length ∧ x1.length = x.length - b := by
  obtain ⟨rfl, rfl, h3, _⟩ := h
  rw [List.length_drop] at h3 ⊢
  omega
theorem Part.tokN {x : Str} {b x1 t} (h : Part x b x1 t) (he : t.err = 0) : Bd x1 t.n ∧ 1 ≤ t.n ∧ t.n ≤ x1.length ∧ ∀ k, t.n ≤ k → tokS (x1.take k) = t := by
  obtain ⟨rfl, rfl, h3, rfl⟩ := h
  obtain ⟨k1, k2, k3⟩ := tok_cut h3 he
  exact ⟨k1, k2, k1.le, k3⟩
/-- The last characters of a text, cut off, are counted by themselves. -/
theorem chS_cut {s : Str} {a b : Nat} (h1 : Bd s a) (h2 : a ≤ b) : chS (s.take b) = chS (s.take a) + chS ((s.drop a).take (b - a)) := by
  have h := chS_split (h1.take h2)
  rwa [List.take_take, Nat.min_eq_left h2, take_drop'] at h

def finL (r : List Wd × Flt) : List Wd × Flt := if r.2.why ≠ 0 then ([], r.2) else r
theorem lexL_eq (s : Str) : ∀ (f a ch ct : Nat), s.length < f + a → a ≤ s.length → Bd s a → Bd s ct → ct ≤ a → ch = chS (s.take ct) →
    lexL s f (a + runS blankR (s.drop a)) ch ct = finL (lexW (s.drop a) a (chS (s.take a)))
  | 0, a, ch, ct, hf, ha, _, _, _, _ => by omega
  | f + 1, a, ch, ct, hf, ha, hb, hbc, hca, hch => by
    rcases part_of (s.drop a) with h | h
    · rw [lexW_nil h, h, lexL, if_pos (by rw [List.length_drop]; omega)]
      rfl
    · have hp := h
      obtain ⟨k1, k2⟩ := h.lt
      rw [List.length_drop] at k1
      generalize hbe : runS blankR (s.drop a) = b at *
      generalize hxe : (s.drop a).drop b = x1 at *
      generalize hte : tokS x1 = t at *
      have hx1 : s.drop (a + b) = x1 := by rw [← hxe, List.drop_drop]
      have hcut : chS (s.take (a + b)) = chS (s.take a) + chS ((s.drop a).take b) := by
        have := chS_cut hb (show a ≤ a + b by omega)
        rwa [Nat.add_sub_cancel_left] at this
      have hc : ch + chS ((s.take (a + b)).drop ct) = chS (s.take (a + b)) := by
        have := chS_cut hbc (show ct ≤ a + b by omega)
        rw [take_drop', hch, this]
      rw [lexL, if_neg (by omega)]
      simp only [hc, hx1, hte]
      by_cases he : t.err = 0
      · obtain ⟨n1, n2, n3, _⟩ := hp.tokN he
        have hb2 : Bd s (a + b) := hb.trans hp.bd
        have hb3 : Bd s (a + b + t.n) := hb2.trans (by rw [hx1]; exact n1)
        have hn := hb3.le
        have hx2 : s.drop (a + b + t.n) = x1.drop t.n := by rw [← hx1, List.drop_drop]
        have hcut2 : chS (s.take (a + b + t.n)) = chS (s.take (a + b)) + chS (x1.take t.n) := by
          have := chS_cut hb2 (show a + b ≤ a + b + t.n by omega)
          rwa [Nat.add_sub_cancel_left, hx1] at this
        have ih := lexL_eq s f (a + b + t.n) (chS (s.take (a + b))) (a + b) (by omega) hn hb3 hb2 (by omega) rfl
        rw [lexW_tok hp he, if_neg (by rw [he]; simp), ih, hx2, hcut2, hcut]
        generalize lexW (x1.drop t.n) (a + b + t.n) (chS (s.take a) + chS ((s.drop a).take b) + chS (x1.take t.n)) = r
        rw [finL, finL]
        by_cases hw : r.2.why ≠ 0
        · simp only [if_pos hw]
        · simp only [if_neg hw]
      · rw [lexW_bad hp he, if_pos he, finL, if_pos he, hcut]
theorem lexS_eq (s : Str) : lexS s = if 4096 < s.length then ([], ⟨70, 0, 0⟩) else finL (lexW s 0 0) := by
  rw [lexS]
  split
  · rfl
  · have h := lexL_eq s (s.length + 1) 0 0 0 (by omega) (Nat.zero_le _) (.zero _) (.zero _) (Nat.le_refl _) (by rw [List.take_zero, chS_nil rfl])
    rw [Nat.zero_add, List.drop_zero, List.take_zero, chS_nil (s := []) rfl] at h
    exact h

end Tab

/- Two texts with a blank between: plain. -/
namespace Tab
open Go
set_option maxRecDepth 10000
set_option linter.unusedVariables false
set_option linter.unusedSimpArgs false
set_option linter.unusedSectionVars false

theorem run_cat_all (p : Int → Bool) (y : Str) : ∀ (n : Nat) (x : Str), x.length = n → runS p x = x.length → runS p (x ++ 32 :: y) = x.length + runS p (32 :: y) := by
  intro n
  induction n using Nat.strongRecOn with
  | _ n ih =>
    intro x hn h
    by_cases hs : x.length = 0
    · have : x = [] := List.length_eq_zero_iff.1 hs
      subst this; simp
    · have hd := dec_join (y := y) hs
      have hw := dec_width x 0
      have hf := dec_fits (s := x) (p := 0) (by omega)
      cases hp : p (dec x 0).1 with
      | false => rw [runS_no hp] at h; omega
      | true =>
        rw [runS_yes hs hp] at h
        rw [runS_yes (by simp) (by rw [hd]; exact hp), hd, List.drop_append_of_le_length (by omega), ih _ (by simp; omega) (x.drop (dec x 0).2) rfl (by rw [List.length_drop]; omega), List.length_drop]
        omega
theorem run_cat_stop (p : Int → Bool) (y : Str) : ∀ (n : Nat) (x : Str), x.length = n → runS p x < x.length → runS p (x ++ 32 :: y) = runS p x := by
  intro n
  induction n using Nat.strongRecOn with
  | _ n ih =>
    intro x hn h
    by_cases hs : x.length = 0
    · omega
    · have hd := dec_join (y := y) hs
      have hw := dec_width x 0
      have hf := dec_fits (s := x) (p := 0) (by omega)
      cases hp : p (dec x 0).1 with
      | false => rw [runS_no hp, runS_no (by rw [hd]; exact hp)]
      | true =>
        rw [runS_yes hs hp] at h ⊢
        rw [runS_yes (by simp) (by rw [hd]; exact hp), hd, List.drop_append_of_le_length (by omega), ih _ (by simp; omega) (x.drop (dec x 0).2) rfl (by rw [List.length_drop]; omega)]
theorem bd_end : ∀ (n : Nat) (x : Str), x.length = n → Bd x x.length := by
  intro n
  induction n using Nat.strongRecOn with
  | _ n ih =>
    intro x hn
    by_cases hs : x.length = 0
    · rw [hs]; exact .zero _
    · have hw := dec_width x 0
      have hf := dec_fits (s := x) (p := 0) (by omega)
      have h := Bd.step (s := x) hs (ih _ (by simp; omega) (x.drop (dec x 0).2) rfl)
      rw [List.length_drop] at h
      rwa [show (dec x 0).2 + (x.length - (dec x 0).2) = x.length by omega] at h
theorem Bd.join {x : Str} {b : Nat} (h : Bd x b) (y : Str) : Bd (x ++ 32 :: y) b := by
  induction h with
  | zero => exact .zero _
  | @step x b hs h ih =>
    have hd := dec_join (y := y) hs
    have hf := dec_fits (s := x) (p := 0) (by omega)
    have := Bd.step (s := x ++ 32 :: y) (a := b) (by simp) (by rw [hd, List.drop_append_of_le_length (by omega)]; exact ih)
    rwa [hd] at this
theorem chS_blank (y : Str) : chS (32 :: y) = 1 + chS y := by
  rw [chS_step (by simp), dec_ascii (by simp [bt])]; rfl
theorem lexW_skip {z : Str} {k : Nat} (hb : Bd z k) (hr : runS blankR z = k + runS blankR (z.drop k)) (a ch : Nat) : lexW z a ch = lexW (z.drop k) (a + k) (ch + chS (z.take k)) := by
  have hk := hb.le
  rcases part_of (z.drop k) with h | h
  · rw [lexW_nil h, lexW_nil (by rw [hr, h, List.length_drop]; omega)]
  · have hz : Part z (k + runS blankR (z.drop k)) ((z.drop k).drop (runS blankR (z.drop k))) (tokS ((z.drop k).drop (runS blankR (z.drop k)))) := ⟨hr, by rw [List.drop_drop], h.some, rfl⟩
    generalize runS blankR (z.drop k) = b at *
    have hc : chS (z.take (k + b)) = chS (z.take k) + chS ((z.drop k).take b) := by
      have := chS_cut hb (show k ≤ k + b by omega)
      rwa [Nat.add_sub_cancel_left] at this
    generalize (z.drop k).drop b = x1 at *
    generalize tokS x1 = t at *
    by_cases he : t.err = 0
    · rw [lexW_tok h he, lexW_tok hz he, hc]
      simp only [Nat.add_assoc]
    · rw [lexW_bad h he, lexW_bad hz he, hc]
      simp only [Nat.add_assoc]
theorem Part.join {x : Str} {b x1 t} (h : Part x b x1 t) (y : Str) : Part (x ++ 32 :: y) b (x1 ++ 32 :: y) t := by
  obtain ⟨l1, l2⟩ := h.lt
  obtain ⟨rfl, rfl, h3, rfl⟩ := h
  exact ⟨run_cat_stop blankR y _ x rfl l1, by rw [List.drop_append_of_le_length (by omega)], by simp, tok_join h3 y⟩
theorem lex_join (y : Str) : ∀ (n : Nat) (x : Str), x.length = n → ∀ (a ch : Nat), lexW (x ++ 32 :: y) a ch =
    if (lexW x a ch).2.why ≠ 0 then lexW x a ch else ((lexW x a ch).1 ++ (lexW y (a + x.length + 1) (ch + chS x + 1)).1, (lexW y (a + x.length + 1) (ch + chS x + 1)).2) := by
  intro n
  induction n using Nat.strongRecOn with
  | _ n ih =>
    intro x hn a ch
    rcases part_of x with h | h
    · rw [lexW_nil h, if_neg (by simp [flt0])]
      have hb : Bd (x ++ 32 :: y) (x.length + 1) := by
        have h1 := (bd_end _ x rfl).join y
        have h2 : Bd (32 :: y : Str) 1 := by
          have := Bd.step (s := (32 :: y : Str)) (a := 0) (by simp) (.zero _)
          rwa [dec_ascii (by simp [bt])] at this
        refine h1.trans ?_
        rw [List.drop_left]; exact h2
      have hd : (x ++ 32 :: y).drop (x.length + 1) = y := by rw [List.drop_append]; simp
      have hr : runS blankR (x ++ 32 :: y) = x.length + 1 + runS blankR ((x ++ 32 :: y).drop (x.length + 1)) := by
        rw [run_cat_all blankR y _ x rfl h, hd, runS_yes (s := (32 :: y : Str)) (by simp) (by rw [dec_ascii (by simp [bt])]; simp [bt, blankR]), dec_ascii (by simp [bt])]
        simp only [List.drop_succ_cons, List.drop_zero]
        omega
      have hc : chS ((x ++ 32 :: y).take (x.length + 1)) = chS x + 1 := by
        have hb2 := (bd_end _ x rfl).join y
        have := chS_cut hb2 (show x.length ≤ x.length + 1 by omega)
        rw [this, List.take_left, List.drop_left, Nat.add_sub_cancel_left, List.take_succ_cons, List.take_zero, chS_blank, chS_nil (s := []) rfl]
      rw [lexW_skip hb hr, hd, hc, Nat.add_assoc, Nat.add_assoc]
      rfl
    · have hj := h.join y
      obtain ⟨l1, l2⟩ := h.lt
      generalize hbe : runS blankR x = b at *
      generalize hxe : x.drop b = x1 at *
      generalize hte : tokS x1 = t at *
      have htk : (x ++ 32 :: y).take b = x.take b := List.take_append_of_le_length (by omega)
      by_cases he : t.err = 0
      · obtain ⟨n1, n2, n3, _⟩ := h.tokN he
        have hbx := h.bd
        have hcx : chS x = chS (x.take b) + (chS (x1.take t.n) + chS (x1.drop t.n)) := by
          rw [chS_split hbx, hxe, chS_split n1]
        rw [lexW_tok hj he, lexW_tok h he, htk, List.take_append_of_le_length n3, List.drop_append_of_le_length n3, ih _ (by rw [List.length_drop]; omega) (x1.drop t.n) rfl, List.length_drop]
        generalize lexW (x1.drop t.n) (a + b + t.n) (ch + chS (x.take b) + chS (x1.take t.n)) = r
        rw [show a + b + t.n + (x1.length - t.n) + 1 = a + x.length + 1 by omega, show ch + chS (x.take b) + chS (x1.take t.n) + chS (x1.drop t.n) + 1 = ch + chS x + 1 by omega]
        by_cases hw : r.2.why ≠ 0
        · simp only [if_pos hw]
        · simp only [if_neg hw, List.cons_append]
      · rw [lexW_bad hj he, lexW_bad h he, htk, if_pos he]

end Tab

/- Where words and faults stand: plain. -/
namespace Tab
open Go
set_option maxRecDepth 10000
set_option linter.unusedVariables false
set_option linter.unusedSimpArgs false
set_option linter.unusedSectionVars false

theorem Part.cut {x : Str} {b x1 t} (h : Part x b x1 t) (he : t.err = 0) {k : Nat} (hk : t.n ≤ k) : Part (x.take (b + k)) b (x1.take k) t := by
  obtain ⟨l1, l2⟩ := h.lt
  obtain ⟨n1, n2, n3, n4⟩ := h.tokN he
  obtain ⟨rfl, rfl, h3, rfl⟩ := h
  exact ⟨runS_take blankR blank_run.2.2.2.2 _ x _ rfl (by omega), by rw [take_drop', Nat.add_sub_cancel_left], by rw [List.length_take]; omega, n4 k hk⟩
/-- A fault's place; what stands ahead of it has none. -/
theorem lex_cut : ∀ (n : Nat) (x : Str), x.length = n → ∀ (a ch : Nat), (lexW x a ch).2.why ≠ 0 →
    ∃ k, k < x.length ∧ Bd x k ∧ (lexW x a ch).2.at' = a + k ∧ (lexW x a ch).2.ch = ch + chS (x.take k) ∧ lexW (x.take k) a ch = ((lexW x a ch).1, flt0) := by
  intro n
  induction n using Nat.strongRecOn with
  | _ n ih =>
    intro x hn a ch hw
    rcases part_of x with h | h
    · rw [lexW_nil h] at hw; exact absurd rfl hw
    · obtain ⟨l1, l2⟩ := h.lt
      have hbx := h.bd
      generalize hbe : runS blankR x = b at *
      generalize hxe : x.drop b = x1 at *
      generalize hte : tokS x1 = t at *
      by_cases he : t.err = 0
      · obtain ⟨n1, n2, n3, _⟩ := h.tokN he
        rw [lexW_tok h he] at hw ⊢
        simp only at hw ⊢
        obtain ⟨k, k1, k2, k3, k4, k5⟩ := ih _ (by rw [List.length_drop]; omega) (x1.drop t.n) rfl (a + b + t.n) (ch + chS (x.take b) + chS (x1.take t.n)) hw
        rw [List.length_drop] at k1
        have hp := h.cut he (k := t.n + k) (by omega)
        have hcx : chS (x.take (b + (t.n + k))) = chS (x.take b) + (chS (x1.take t.n) + chS ((x1.drop t.n).take k)) := by
          have e1 := chS_cut hbx (show b ≤ b + (t.n + k) by omega)
          have e2 := chS_cut n1 (show t.n ≤ t.n + k by omega)
          rw [Nat.add_sub_cancel_left, hxe] at e1
          rw [Nat.add_sub_cancel_left] at e2
          rw [e1, e2]
        refine ⟨b + (t.n + k), by omega, hbx.trans (by rw [hxe]; exact n1.trans k2), by rw [k3]; omega, by rw [k4, hcx]; omega, ?_⟩
        have t1 : (x.take (b + (t.n + k))).take b = x.take b := by rw [List.take_take, Nat.min_eq_left (by omega)]
        have t2 : (x1.take (t.n + k)).take t.n = x1.take t.n := by rw [List.take_take, Nat.min_eq_left (by omega)]
        have t3 : (x1.take (t.n + k)).drop t.n = (x1.drop t.n).take k := by rw [take_drop', Nat.add_sub_cancel_left]
        rw [lexW_tok hp he, t1, t2, t3, k5]
      · rw [lexW_bad h he]
        refine ⟨b, l1, hbx, rfl, rfl, ?_⟩
        rw [lexW_nil]
        rw [runS_take blankR blank_run.2.2.2.2 _ x b rfl (by omega), hbe, List.length_take]
        omega
/-- Bytes that are blanks. -/
def blB (c : UInt8) : Bool := blankR (c.toNat : Nat)
theorem dec_blank {x : Str} (h : blankR (dec x 0).1 = true) : bt x 0 < 128 ∧ dec x 0 = (bt x 0, 1) := by
  have h1 : (dec x 0).1 < 128 := by
    simp only [blankR, Bool.or_eq_true, decide_eq_true_eq] at h
    omega
  have h2 := dec_small h1
  exact ⟨h2, dec_ascii h2⟩
theorem run_blank : ∀ (n : Nat) (x : Str), x.length = n → ∀ i, i < runS blankR x → blB (x.getD i 0) = true := by
  intro n
  induction n using Nat.strongRecOn with
  | _ n ih =>
    intro x hn i hi
    by_cases hs : x.length = 0
    · rw [runS_nil hs] at hi; omega
    · cases hp : blankR (dec x 0).1 with
      | false => rw [runS_no hp] at hi; omega
      | true =>
        obtain ⟨h1, h2⟩ := dec_blank hp
        rw [runS_yes hs hp, h2] at hi
        rw [h2] at hp
        cases i with
        | zero => exact hp
        | succ i =>
          have := ih _ (by simp; omega) (x.drop 1) rfl i (by simp only at hi; omega)
          rw [List.getD_eq_getElem?_getD, List.getElem?_drop, Nat.add_comm] at this
          rw [List.getD_eq_getElem?_getD]; exact this
theorem run_end : ∀ (n : Nat) (x : Str), x.length = n → runS blankR x < x.length → blB (x.getD (runS blankR x) 0) = false := by
  intro n
  induction n using Nat.strongRecOn with
  | _ n ih =>
    intro x hn hi
    have hs : x.length ≠ 0 := by omega
    cases hp : blankR (dec x 0).1 with
    | false =>
      rw [runS_no hp]
      cases hb : blB (x.getD 0 0) with
      | false => rfl
      | true =>
        have h1 : bt x 0 < 128 := by
          have hb : blankR ((bt x 0 : Nat) : Int) = true := hb
          simp only [blankR, Bool.or_eq_true, decide_eq_true_eq] at hb
          omega
        rw [dec_ascii h1] at hp
        rw [show blB (x.getD 0 0) = blankR ((bt x 0 : Nat) : Int) from rfl, hp] at hb
        cases hb
    | true =>
      obtain ⟨h1, h2⟩ := dec_blank hp
      rw [runS_yes hs hp, h2] at hi ⊢
      simp only at hi ⊢
      have := ih _ (by simp; omega) (x.drop 1) rfl (by simp only [List.length_drop]; omega)
      rw [List.getD_eq_getElem?_getD, List.getElem?_drop] at this
      rw [List.getD_eq_getElem?_getD]; exact this
/-- Where a word stands. -/
def PlOk (x : Str) (a ch : Nat) (w : Wd) : Prop := ∃ k, k < x.length ∧ Bd x k ∧ w.at' = a + k ∧ w.ch = ch + chS (x.take k) ∧ blB (x.getD k 0) = false
theorem lex_places : ∀ (n : Nat) (x : Str), x.length = n → ∀ (a ch : Nat), (∀ w ∈ (lexW x a ch).1, PlOk x a ch w) ∧ (lexW x a ch).1.Pairwise (fun v w => v.at' < w.at') ∧
    ((lexW x a ch).2.why = 0 → (∀ i, i < x.length → (∀ w ∈ (lexW x a ch).1.head?, a + i < w.at') → blB (x.getD i 0) = true)) := by
  intro n
  induction n using Nat.strongRecOn with
  | _ n ih =>
    intro x hn a ch
    rcases part_of x with h | h
    · rw [lexW_nil h]
      exact ⟨by simp, List.Pairwise.nil, fun _ i hi _ => run_blank _ x rfl i (by omega)⟩
    · obtain ⟨l1, l2⟩ := h.lt
      have hbx := h.bd
      have hend := run_end _ x rfl
      have hbl := run_blank _ x rfl
      generalize hbe : runS blankR x = b at *
      generalize hxe : x.drop b = x1 at *
      generalize hte : tokS x1 = t at *
      by_cases he : t.err = 0
      · obtain ⟨n1, n2, n3, _⟩ := h.tokN he
        obtain ⟨i1, i2, _⟩ := ih _ (by rw [List.length_drop]; omega) (x1.drop t.n) rfl (a + b + t.n) (ch + chS (x.take b) + chS (x1.take t.n))
        rw [lexW_tok h he]
        have hpl : ∀ w, PlOk (x1.drop t.n) (a + b + t.n) (ch + chS (x.take b) + chS (x1.take t.n)) w → PlOk x a ch w ∧ a + b < w.at' := by
          rintro w ⟨k, k1, k2, k3, k4, k5⟩
          rw [List.length_drop] at k1
          have hcx : chS (x.take (b + (t.n + k))) = chS (x.take b) + (chS (x1.take t.n) + chS ((x1.drop t.n).take k)) := by
            have e1 := chS_cut hbx (show b ≤ b + (t.n + k) by omega)
            have e2 := chS_cut n1 (show t.n ≤ t.n + k by omega)
            rw [Nat.add_sub_cancel_left, hxe] at e1
            rw [Nat.add_sub_cancel_left] at e2
            rw [e1, e2]
          refine ⟨⟨b + (t.n + k), by omega, hbx.trans (by rw [hxe]; exact n1.trans k2), by rw [k3]; omega, by rw [k4, hcx]; omega, ?_⟩, by rw [k3]; omega⟩
          rw [← hxe, List.getD_eq_getElem?_getD, List.getElem?_drop, List.getElem?_drop] at k5
          rw [List.getD_eq_getElem?_getD]; exact k5
        refine ⟨fun w hw => ?_, ?_, fun _ i hi hh => ?_⟩
        · rcases List.mem_cons.1 hw with rfl | hw
          · exact ⟨b, l1, hbx, rfl, rfl, hend l1⟩
          · exact (hpl w (i1 w hw)).1
        · exact List.pairwise_cons.2 ⟨fun w hw => (hpl w (i1 w hw)).2, i2⟩
        · have := hh _ (by simp; rfl)
          exact hbl i (by simp only at this; omega)
      · rw [lexW_bad h he]
        exact ⟨by simp, List.Pairwise.nil, fun h0 => absurd h0 he⟩

end Tab

/- Words written down and read again: plain. -/
namespace Tab
open Go
set_option maxRecDepth 10000
set_option linter.unusedVariables false
set_option linter.unusedSimpArgs false
set_option linter.unusedSectionVars false

/-- A number's digits. -/
def dgL (n : Nat) : Str := if h : n ≤ 9 then [UInt8.ofNat (48 + n)] else dgL (n / 10) ++ [UInt8.ofNat (48 + n % 10)]
termination_by n
decreasing_by omega
theorem dgL_small {n : Nat} (h : n ≤ 9) : dgL n = [UInt8.ofNat (48 + n)] := by rw [dgL, dif_pos h]
theorem dgL_big {n : Nat} (h : ¬ n ≤ 9) : dgL n = dgL (n / 10) ++ [UInt8.ofNat (48 + n % 10)] := by rw [dgL, dif_neg h]
theorem u8_dig {d : Nat} (h : d ≤ 9) : (UInt8.ofNat (48 + d)).toNat = 48 + d := by show (48 + d) % 256 = 48 + d; omega
theorem numL_app : ∀ (t : Str) (a : Nat) (c : UInt8), numL a (t ++ [c]) = (numL a t).bind fun m => numL m [c]
  | [], a, c => rfl
  | x :: t, a, c => by
    rw [List.cons_append, numL, numL]
    split
    · rfl
    · exact numL_app t _ c
theorem numL_one {m d : Nat} (h : d ≤ 9) (hm : 10 * m + d ≤ 9223372036854775807) : numL m [UInt8.ofNat (48 + d)] = some (10 * m + d) := by
  rw [numL, u8_dig h, Nat.add_sub_cancel_left, if_neg (by omega)]; rfl
theorem numS_dg : ∀ (n : Nat), n ≤ 9223372036854775807 → numS (dgL n) = some n := by
  intro n
  induction n using Nat.strongRecOn with
  | _ n ih =>
    intro hn
    by_cases h : n ≤ 9
    · rw [dgL_small h, numS, numL_one h (by omega)]; congr 1; omega
    · have h1 := ih (n / 10) (by omega) (by omega)
      rw [numS] at h1
      rw [dgL_big h, numS, numL_app, h1]
      show numL (n / 10) _ = _
      rw [numL_one (by omega) (by omega)]; congr 1; omega
theorem dg_chars : ∀ (n : Nat), ∀ c ∈ dgL n, 48 ≤ c.toNat ∧ c.toNat ≤ 57 := by
  intro n
  induction n using Nat.strongRecOn with
  | _ n ih =>
    intro c hc
    by_cases h : n ≤ 9
    · rw [dgL_small h] at hc
      rw [List.mem_singleton.1 hc, u8_dig h]; omega
    · rw [dgL_big h] at hc
      rcases List.mem_append.1 hc with hc | hc
      · exact ih _ (by omega) c hc
      · rw [List.mem_singleton.1 hc, u8_dig (by omega)]; omega
theorem dg_ne (n : Nat) : dgL n ≠ [] := by
  by_cases h : n ≤ 9
  · rw [dgL_small h]; simp
  · rw [dgL_big h]; simp
theorem run_all (p : Int → Bool) : ∀ (z : Str), (∀ c ∈ z, c.toNat < 128 ∧ p (c.toNat : Nat) = true) → runS p z = z.length
  | [], _ => runS_nil rfl
  | c :: z, h => by
    have hd : dec (c :: z) 0 = (c.toNat, 1) := dec_ascii (h c (by simp)).1
    rw [runS_yes (by simp) (by rw [hd]; exact (h c (by simp)).2), hd]
    show 1 + runS p z = _
    rw [run_all p z fun x hx => h x (by simp [hx]), List.length_cons]; omega
theorem dig_no {r : Nat} (h1 : 48 ≤ r) (h2 : r ≤ 57) : startR (r : Int) = false ∧ digR (r : Int) = true := by
  constructor
  · unfold startR; simp; omega
  · simp [digR]; omega
theorem tok_dg {n : Nat} (hn : n ≤ 9223372036854775807) : tokS (dgL n) = ⟨1, [], n, (dgL n).length, 0⟩ := by
  have hc := dg_chars n
  have hr := run_all digR (dgL n) fun c h => ⟨by have := hc c h; omega, (dig_no (hc c h).1 (hc c h).2).2⟩
  have hs := numS_dg n hn
  cases e : dgL n with
  | nil => exact absurd e (dg_ne n)
  | cons c z =>
    rw [e] at hc hr hs
    obtain ⟨h1, h2⟩ := hc c (by simp)
    have hd : dec (c :: z) 0 = (c.toNat, 1) := dec_ascii (by show c.toNat < 128; omega)
    obtain ⟨k1, k2⟩ := dig_no h1 h2
    rw [tokS, hd, if_neg (by simp only; omega), if_neg (by simp only; rw [k1]; simp), if_pos (by simpa using k2), hr, List.take_length, hs]
theorem numL_le : ∀ (t : Str) (a v : Nat), a ≤ 9223372036854775807 → (∀ c ∈ t, 48 ≤ c.toNat ∧ c.toNat ≤ 57) → numL a t = some v → v ≤ 9223372036854775807
  | [], a, v, ha, _, h => by rw [numL] at h; cases h; exact ha
  | c :: t, a, v, ha, hc, h => by
    rw [numL] at h
    split at h
    · cases h
    · rename_i hn
      have := hc c (by simp)
      exact numL_le t _ v (by omega) (fun x hx => hc x (by simp [hx])) h
theorem run_chars (p : Int → Bool) (hp : ∀ r : Nat, p r = true → r < 128) : ∀ (n : Nat) (x : Str), x.length = n → ∀ c ∈ x.take (runS p x), p (c.toNat : Nat) = true := by
  intro n
  induction n using Nat.strongRecOn with
  | _ n ih =>
    intro x hn c hc
    by_cases hs : x.length = 0
    · rw [runS_nil hs] at hc; simp at hc
    · cases h : p (dec x 0).1 with
      | false => rw [runS_no h] at hc; simp at hc
      | true =>
        have h1 := dec_ascii (dec_small (s := x) (p := 0) (hp _ h))
        cases x with
        | nil => simp at hs
        | cons d x =>
          rw [runS_yes hs h, h1] at hc
          rw [h1] at h
          simp only [List.drop_succ_cons, List.drop_zero] at hc
          rw [Nat.add_comm, List.take_succ_cons] at hc
          rcases List.mem_cons.1 hc with rfl | hc
          · exact h
          · exact ih _ (by rw [← hn]; simp) x rfl c hc
def wordsAll : List Str := signL ++ plainT.map (·.2) ++ resWords
theorem tok_words : (wordsAll.all fun t => decide ((tokS t).kind = 2) && decide ((tokS t).text = t) && decide ((tokS t).num = 0) && decide ((tokS t).n = t.length) && decide ((tokS t).err = 0) && decide (t.length ≠ 0)) = true := by kernel_rfl
theorem tok_word {t : Str} (h : t ∈ wordsAll) : tokS t = ⟨2, t, 0, t.length, 0⟩ ∧ t.length ≠ 0 := by
  have := List.all_eq_true.1 tok_words t h
  simp only [Bool.and_eq_true, decide_eq_true_eq] at this
  obtain ⟨⟨⟨⟨⟨h1, h2⟩, h3⟩, h4⟩, h5⟩, h6⟩ := this
  refine ⟨?_, h6⟩
  generalize tokS t = u at *
  cases u
  simp only at *
  subst h1 h2 h3 h4 h5
  rfl
theorem plain_mem {r : Int} (h : plainS r ≠ []) : plainS r ∈ plainT.map (·.2) := by
  rw [plainS] at h ⊢
  cases e : plainT.find? fun p => decide (r = p.1) with
  | none => rw [e] at h; exact absurd rfl h
  | some p =>
    rw [e] at h
    exact List.mem_map.2 ⟨p, List.mem_of_find?_eq_some e, rfl⟩
def wrT (k : Int) (t : Str) (v : Nat) : Str := if k = 1 then dgL v else t
theorem nameT_kind (t : Str) (n : Nat) : (nameT t n).kind ≠ 1 ∧ (nameT t n).num = 0 ∧ ((nameT t n).err = 0 → (nameT t n).text = t) := by
  rw [nameT]
  split
  · exact ⟨by simp, rfl, fun _ => rfl⟩
  · split
    · exact ⟨by simp, rfl, fun h => by simp at h⟩
    · exact ⟨by simp, rfl, fun _ => rfl⟩
/-- A word that is written down alone is read as the same word. -/
theorem tok_again {x : Str} (hx : x.length ≠ 0) (h : (tokS x).err = 0) : tokS (wrT (tokS x).kind (tokS x).text (tokS x).num) = ⟨(tokS x).kind, (tokS x).text, (tokS x).num, (wrT (tokS x).kind (tokS x).text (tokS x).num).length, 0⟩ ∧ (wrT (tokS x).kind (tokS x).text (tokS x).num).length ≠ 0 := by
  obtain ⟨hb, hn1, hcut⟩ := tok_cut hx h
  have hle := hb.le
  have hh := hcut _ (Nat.le_refl _)
  have h' := h
  have e0 := tokS.eq_1 x
  by_cases h1 : (dec x 0).1 = 65533 ∧ (dec x 0).2 ≤ 1
  · rw [e0, if_pos h1] at h; simp [tokBad] at h
  rw [if_neg h1] at e0
  by_cases h2 : startR (dec x 0).1 = true
  · rw [if_pos h2] at e0
    obtain ⟨k1, k2, k3⟩ := nameT_kind (x.take (runS restR x)) (runS restR x)
    have kn := nameT_n (x.take (runS restR x)) (runS restR x)
    rw [← e0] at k1 k2 k3 kn
    have k3 := k3 h'
    have hw : wrT (tokS x).kind (tokS x).text (tokS x).num = x.take (tokS x).n := by rw [wrT, if_neg k1, k3, kn]
    rw [hw, hh, List.length_take, Nat.min_eq_left hle]
    refine ⟨?_, by omega⟩
    generalize tokS x = t at *
    cases t
    simp only at *
    subst h'
    rfl
  rw [if_neg h2] at e0
  by_cases h3 : digR (dec x 0).1 = true
  · rw [if_pos h3] at e0
    cases e : numS (x.take (runS digR x)) with
    | none => rw [e] at e0; rw [e0] at h; simp [tokBad] at h
    | some v =>
      rw [e] at e0
      have hv : v ≤ 9223372036854775807 := numL_le _ 0 v (by omega) (fun c hc => by
        have := run_chars digR (fun r hr => by simp [digR] at hr; omega) _ x rfl c hc
        simp [digR] at this; omega) e
      rw [e0]
      show tokS (wrT 1 [] v) = _ ∧ _
      have hw : wrT 1 [] v = dgL v := by rw [wrT, if_pos rfl]
      simp only [hw]
      exact ⟨tok_dg hv, fun e => dg_ne v (List.length_eq_zero_iff.1 e)⟩
  rw [if_neg h3] at e0
  by_cases h4 : plainS (dec x 0).1 ≠ []
  · rw [if_pos h4] at e0
    rw [e0]
    have hw : wrT 2 (plainS (dec x 0).1) 0 = plainS (dec x 0).1 := by rw [wrT, if_neg (by decide)]
    simp only [hw]
    exact tok_word (by rw [wordsAll]; exact List.mem_append_left _ (List.mem_append_right _ (plain_mem h4)))
  rw [if_neg h4] at e0
  rw [e0] at h
  obtain ⟨t, ht, _, es, _⟩ := sign_ok h
  rw [e0, es]
  have hw : wrT 2 t 0 = t := by rw [wrT, if_neg (by decide)]
  simp only [hw]
  exact tok_word (by rw [wordsAll]; exact List.mem_append_left _ (List.mem_append_left _ ht))
theorem tok_noblank {z : Str} (hz : z.length ≠ 0) (h : (tokS z).err = 0) : runS blankR z = 0 := by
  cases hb : blankR (dec z 0).1 with
  | false => exact runS_no hb
  | true =>
    exfalso
    obtain ⟨h1, h2⟩ := dec_blank hb
    have hr : bt z 0 = 32 ∨ bt z 0 = 9 ∨ bt z 0 = 10 ∨ bt z 0 = 13 := by
      rw [h2] at hb
      simp only [blankR, Bool.or_eq_true, decide_eq_true_eq] at hb
      omega
    have hs : signT z = tokBad 51 := by
      rw [signT]
      have : (signL.find? fun t => t.isPrefixOf z) = none := by
        rw [List.find?_eq_none]
        intro t ht hp
        cases z with
        | nil => simp at hz
        | cons c z =>
          have hc : c.toNat = 32 ∨ c.toNat = 9 ∨ c.toNat = 10 ∨ c.toNat = 13 := hr
          have hf : (signL.all fun t => match t with | [] => false | d :: _ => decide (d.toNat ≠ 32) && decide (d.toNat ≠ 9) && decide (d.toNat ≠ 10) && decide (d.toNat ≠ 13)) = true := by kernel_rfl
          have hf := List.all_eq_true.1 hf t ht
          cases t with
          | nil => simp at hf
          | cons d t =>
            simp only [List.isPrefixOf, Bool.and_eq_true, beq_iff_eq] at hp
            obtain ⟨rfl, _⟩ := hp
            simp only [Bool.and_eq_true, decide_eq_true_eq] at hf
            omega
      rw [this]
    rw [tokS, h2] at h
    have k1 : startR ((bt z 0 : Nat) : Int) = false := by unfold startR; rcases hr with e | e | e | e <;> rw [e] <;> decide
    have k2 : digR ((bt z 0 : Nat) : Int) = false := by rcases hr with e | e | e | e <;> rw [e] <;> decide
    have k3 : plainS ((bt z 0 : Nat) : Int) = [] := by rcases hr with e | e | e | e <;> rw [e] <;> decide
    simp only at h
    rw [if_neg (by omega), if_neg (by rw [k1]; simp), if_neg (by rw [k2]; simp), if_neg (by rw [k3]; simp), hs] at h
    simp [tokBad] at h
/-- A word that is read again as it is. -/
def Ag (w : Wd) : Prop := tokS (wrT w.kind w.text w.num) = ⟨w.kind, w.text, w.num, (wrT w.kind w.text w.num).length, 0⟩ ∧ (wrT w.kind w.text w.num).length ≠ 0
theorem lex_ag : ∀ (n : Nat) (x : Str), x.length = n → ∀ (a ch : Nat), ∀ w ∈ (lexW x a ch).1, Ag w := by
  intro n
  induction n using Nat.strongRecOn with
  | _ n ih =>
    intro x hn a ch
    rcases part_of x with h | h
    · rw [lexW_nil h]; simp
    · obtain ⟨l1, l2⟩ := h.lt
      have hx1 := h.some
      generalize hbe : runS blankR x = b at *
      generalize hxe : x.drop b = x1 at *
      generalize hte : tokS x1 = t at *
      by_cases he : t.err = 0
      · obtain ⟨n1, n2, n3, _⟩ := h.tokN he
        rw [lexW_tok h he]
        intro w hw
        rcases List.mem_cons.1 hw with rfl | hw
        · have := tok_again hx1 (by rw [hte]; exact he)
          rw [hte] at this
          exact this
        · exact ih _ (by rw [List.length_drop]; omega) (x1.drop t.n) rfl _ _ w hw
      · rw [lexW_bad h he]; simp
def agS (ws : List Wd) : Str := ws.flatMap fun w => wrT w.kind w.text w.num ++ [32]
theorem lex_again : ∀ (ws : List Wd), (∀ w ∈ ws, Ag w) → ∀ (a ch : Nat), (lexW (agS ws) a ch).2 = flt0 ∧ (lexW (agS ws) a ch).1.map (fun w => (w.kind, w.text, w.num)) = ws.map fun w => (w.kind, w.text, w.num)
  | [], _, a, ch => by
    rw [show agS [] = [] from rfl, lexW_nil (runS_nil rfl)]
    exact ⟨rfl, rfl⟩
  | w :: ws, h, a, ch => by
    obtain ⟨h1, h2⟩ := h w (by simp)
    have hs : agS (w :: ws) = wrT w.kind w.text w.num ++ 32 :: agS ws := by rw [agS, List.flatMap_cons, List.append_assoc]; rfl
    have hp : Part (wrT w.kind w.text w.num) 0 (wrT w.kind w.text w.num) ⟨w.kind, w.text, w.num, (wrT w.kind w.text w.num).length, 0⟩ := ⟨tok_noblank h2 (by rw [h1]), rfl, h2, h1⟩
    have h3 : lexW (wrT w.kind w.text w.num) a ch = ([⟨w.kind, w.text, w.num, a, ch⟩], flt0) := by
      rw [lexW_tok hp rfl]
      simp only [List.drop_length]
      rw [lexW_nil (runS_nil rfl), List.take_zero, chS_nil (s := []) rfl]
      rfl
    rw [hs, lex_join _ _ _ rfl, h3, if_neg (by simp [flt0])]
    obtain ⟨i1, i2⟩ := lex_again ws (fun v hv => h v (by simp [hv])) (a + (wrT w.kind w.text w.num).length + 1) (ch + chS (wrT w.kind w.text w.num) + 1)
    exact ⟨i1, by simp only [List.cons_append, List.nil_append, List.map_cons, i2]⟩

end Tab

/- A number's digits, counted and laid down: plain. -/
namespace Tab
open Go
set_option maxRecDepth 10000
set_option linter.unusedVariables false
set_option linter.unusedSimpArgs false
set_option linter.unusedSectionVars false

def isLen (n L : Nat) : Prop := 1 ≤ L ∧ 2 ^ (L - 1) ≤ n ∧ n < 2 ^ L
theorem isLen_small : ∀ n, n < 256 → 0 < n → isLen n (bitsN n) := by
  have k : ∀ n, n < 256 → 0 < n → 1 ≤ bitsN n ∧ 2 ^ (bitsN n - 1) ≤ n ∧ n < 2 ^ bitsN n := by decide +kernel
  exact k
theorem cut_pos {k n : Nat} (h : 0 < n) : 0 < cutN (2 ^ k) n := by
  rw [cutN]; split
  · exact Nat.div_pos (by assumption) (Nat.two_pow_pos k)
  · exact h
theorem isLen_cut {k n L : Nat} (h : isLen (cutN (2 ^ k) n) L) : isLen n (addN (2 ^ k) k n + L) := by
  obtain ⟨h1, h2, h3⟩ := h
  rw [cutN] at h2 h3
  rw [addN]
  split
  · rename_i hc
    rw [if_pos hc] at h2 h3
    have e1 := (Nat.le_div_iff_mul_le (Nat.two_pow_pos k)).1 h2
    have e2 := (Nat.div_lt_iff_lt_mul (Nat.two_pow_pos k)).1 h3
    rw [← Nat.pow_add] at e1 e2
    exact ⟨by omega, by rw [show k + L - 1 = L - 1 + k by omega]; exact e1, by rw [Nat.add_comm]; exact e2⟩
  · rename_i hc
    rw [if_neg hc] at h2 h3
    rw [Nat.zero_add]
    exact ⟨h1, h2, h3⟩
theorem isLen_lenN {n : Nat} (h0 : 0 < n) (h : n < 2 ^ 64) : isLen n (lenN n) := by
  have b1 : cutN 4294967296 n < 2 ^ 32 := by rw [cutN]; split <;> omega
  have b2 : cutN 65536 (cutN 4294967296 n) < 2 ^ 16 := by rw [cutN]; split <;> omega
  have b3 : cutN 256 (cutN 65536 (cutN 4294967296 n)) < 256 := by rw [cutN]; split <;> omega
  have p1 := cut_pos (k := 32) h0
  have p2 := cut_pos (k := 16) p1
  have p3 := cut_pos (k := 8) p2
  have k3 := isLen_small _ b3 p3
  have k2 := isLen_cut (k := 8) k3
  have k1 := isLen_cut (k := 16) k2
  have k0 := isLen_cut (k := 32) k1
  rw [lenN]
  rw [show addN 4294967296 32 n + addN 65536 16 (cutN 4294967296 n) + addN 256 8 (cutN 65536 (cutN 4294967296 n)) + bitsN (cutN 256 (cutN 65536 (cutN 4294967296 n))) =
    addN 4294967296 32 n + (addN 65536 16 (cutN 4294967296 n) + (addN 256 8 (cutN 65536 (cutN 4294967296 n)) + bitsN (cutN 256 (cutN 65536 (cutN 4294967296 n))))) by omega]
  exact k0
/-- How many digits. -/
def l10 (L : Nat) : Nat := L * 78913 / 262144
def ndS (n : Nat) : Nat := l10 (lenN n) + if 10 ^ l10 (lenN n) ≤ n then 1 else 0
theorem l10_ok : ∀ L, L < 65 → 1 ≤ L → 2 ^ L ≤ 10 ^ (l10 L + 1) ∧ (l10 L = 0 ∨ 10 ^ (l10 L - 1) ≤ 2 ^ (L - 1)) ∧ l10 L ≤ 19 := by decide +kernel
theorem lenN_le64 {n : Nat} (h0 : 0 < n) (h : n < 2 ^ 64) : 1 ≤ lenN n ∧ lenN n < 65 := by
  obtain ⟨h1, h2, _⟩ := isLen_lenN h0 h
  refine ⟨h1, ?_⟩
  by_cases hc : lenN n < 65
  · exact hc
  · have : 2 ^ 64 ≤ 2 ^ (lenN n - 1) := Nat.pow_le_pow_right (by omega) (by omega)
    omega
theorem ndS_ok {n : Nat} (h0 : 0 < n) (h : n < 2 ^ 64) : 1 ≤ ndS n ∧ 10 ^ (ndS n - 1) ≤ n ∧ n < 10 ^ ndS n := by
  obtain ⟨h1, h2, h3⟩ := isLen_lenN h0 h
  obtain ⟨a1, a2⟩ := lenN_le64 h0 h
  obtain ⟨k1, k2, _⟩ := l10_ok _ a2 a1
  rw [ndS]
  generalize l10 (lenN n) = k at *
  split
  · exact ⟨by omega, by rw [Nat.add_sub_cancel]; assumption, by omega⟩
  · rename_i hc
    rcases k2 with e | e
    · subst e; simp at hc; omega
    · have hk : 1 ≤ k := by
        by_cases e : k = 0
        · subst e; simp at hc; omega
        · omega
      rw [Nat.add_zero]
      exact ⟨hk, by omega, by omega⟩
/-- So many digits of a number. -/
def padL : Nat → Nat → List UInt8
  | 0, _ => []
  | k + 1, u => padL k (u / 10) ++ [UInt8.ofNat (48 + u % 10)]
theorem padL_len : ∀ k u, (padL k u).length = k
  | 0, _ => rfl
  | k + 1, u => by rw [padL, List.length_append, padL_len k]; rfl
theorem padL_add : ∀ (b a u : Nat), padL (a + b) u = padL a (u / 10 ^ b) ++ padL b u
  | 0, a, u => by simp [padL]
  | b + 1, a, u => by
    rw [← Nat.add_assoc, padL, padL, padL_add b a (u / 10), List.append_assoc, Nat.div_div_eq_div_mul, Nat.pow_succ, Nat.mul_comm 10]
theorem padL_mod : ∀ (b u : Nat), padL b (u % 10 ^ b) = padL b u
  | 0, _ => rfl
  | b + 1, u => by
    rw [padL, padL]
    have e1 : u % 10 ^ (b + 1) / 10 = (u / 10) % 10 ^ b := by
      rw [Nat.pow_succ, Nat.mul_comm, Nat.mod_mul_right_div_self]
    have e2 : u % 10 ^ (b + 1) % 10 = u % 10 := by
      rw [Nat.pow_succ, Nat.mul_comm]; exact Nat.mod_mul_right_mod u 10 (10 ^ b)
    rw [e1, e2, padL_mod b]
theorem dgL_pad : ∀ (k u : Nat), 10 ^ k ≤ u ∨ k = 0 → u < 10 ^ (k + 1) → dgL u = padL (k + 1) u
  | 0, u, _, h => by rw [dgL_small (by omega)]; show _ = [] ++ [_]; rw [List.nil_append, Nat.mod_eq_of_lt (by omega)]
  | k + 1, u, h, h2 => by
    have h : 10 ^ (k + 1) ≤ u := by rcases h with h | h; exact h; omega
    have hp : 10 ≤ 10 ^ (k + 1) := Nat.le_self_pow (by omega) 10
    rw [dgL_big (by omega), padL, dgL_pad k (u / 10) (.inl ((Nat.le_div_iff_mul_le (by omega)).2 (by rw [← Nat.pow_succ]; exact h))) ((Nat.div_lt_iff_lt_mul (by omega)).2 (by rw [← Nat.pow_succ]; exact h2))]
theorem dgL_nd {u : Nat} (h0 : 0 < u) (h : u < 2 ^ 64) : dgL u = padL (ndS u) u := by
  obtain ⟨h1, h2, h3⟩ := ndS_ok h0 h
  obtain ⟨k, hk⟩ : ∃ k, ndS u = k + 1 := ⟨ndS u - 1, by omega⟩
  rw [hk] at h2 h3 ⊢
  exact dgL_pad k u (.inl h2) h3

/-- Two digits. -/
def sm2 (k : Nat) : List UInt8 := [UInt8.ofNat (48 + k / 10), UInt8.ofNat (48 + k % 10)]
theorem pad2 (u : Nat) : padL 2 u = sm2 (u % 100) := by
  simp only [padL, List.nil_append, List.cons_append, sm2]
  rw [show u / 10 % 10 = u % 100 / 10 by omega, show u % 10 = u % 100 % 10 by omega]
theorem pad4 (u : Nat) : padL 4 u = sm2 (u / 100 % 100) ++ sm2 (u % 100) := by
  rw [show (4 : Nat) = 2 + 2 from rfl, padL_add, pad2, pad2]
theorem pad8 (u : Nat) : padL 8 u = sm2 (u / 1000000 % 100) ++ (sm2 (u / 10000 % 100) ++ (sm2 (u / 100 % 100) ++ sm2 (u % 100))) := by
  rw [show (8 : Nat) = 4 + 4 from rfl, padL_add, pad4, pad4, List.append_assoc]
  rw [show u / 10 ^ 4 / 100 = u / 1000000 by omega]

end Tab

/- Numbers as texts: the small parts. -/
namespace Tab
open Go Go.Proofs
set_option maxRecDepth 10000
set_option linter.unusedVariables false
set_option linter.unusedSimpArgs false
set_option linter.unusedSectionVars false
set_option maxHeartbeats 1000000

/-- The digits of 00 to 99. -/
def smB : List UInt8 := (List.range 100).flatMap sm2
theorem smB_at {j : Nat} (h : j < 100) : smB[2 * j]? = some (UInt8.ofNat (48 + j / 10)) ∧ smB[2 * j + 1]? = some (UInt8.ofNat (48 + j % 10)) := by
  have k : (List.range 100).all (fun j => decide (smB[2 * j]? = some (UInt8.ofNat (48 + j / 10)) ∧ smB[2 * j + 1]? = some (UInt8.ofNat (48 + j % 10)))) = true := by kernel_rfl
  have := List.all_eq_true.1 k j (List.mem_range.2 h)
  simpa only [decide_eq_true_eq] using this
theorem smB_cut {j : Nat} (h : j < 100) : (smB.drop (2 * j)).take 2 = sm2 j := by
  have k : (List.range 100).all (fun j => decide ((smB.drop (2 * j)).take 2 = sm2 j)) = true := by kernel_rfl
  have := List.all_eq_true.1 k j (List.mem_range.2 h)
  simpa only [decide_eq_true_eq] using this
def dgB : List UInt8 := [48, 49, 50, 51, 52, 53, 54, 55, 56, 57, 97, 98, 99, 100, 101, 102, 103, 104, 105, 106, 107, 108, 109, 110, 111, 112, 113, 114, 115, 116, 117, 118, 119, 120, 121, 122]
theorem dgB_cut {j : Nat} (h : j < 10) : (dgB.drop j).take 1 = [UInt8.ofNat (48 + j)] := by
  have k : (List.range 10).all (fun j => decide ((dgB.drop j).take 1 = [UInt8.ofNat (48 + j)])) = true := by kernel_rfl
  have := List.all_eq_true.1 k j (List.mem_range.2 h)
  simpa only [decide_eq_true_eq] using this

theorem fmt_small (n : Nat) (h : n < 100) : Pure Tryd.prog 105 [.int .i64 n] (.str (dgL n)) := by
  refine Pure.of_sw 15 Tryd.func105 rfl Tryd.ntmps105 (by kernel_rfl) (Nat.le_of_ble_eq_true (by kernel_rfl)) (by simp [closeds, AV.closed, aSs_closed, aIs_closed, aBs_closed, aRs_closed, aDen_closed]) (by simp [AV.closed, closeds, aSs_closed, aIs_closed, aBs_closed, aRs_closed, aDen_closed]) ?_; refine SW.of_vc ?_
  repeat first | refine opsStep ?_ | refine codeStep ?_ | refine drawStep ?_
  refine decB_dec (fun c => ?_) (fun c => ?_)
  · have c : (n : Int) < 10 := c
    have e1 : IntKind.wrap .i64 ((n : Int) + 1) = ((n + 1 : Nat) : Int) := by rw [IntWalk.i64_in _ (by omega)]; simp
    repeat first | refine opsStep ?_ | refine codeStep ?_ | refine drawStep ?_
    refine guardE_of (by show (0 : Int) ≤ n ∧ (n : Int) ≤ IntKind.wrap .i64 ((n : Int) + 1) ∧ IntKind.wrap .i64 ((n : Int) + 1) ≤ (36 : Nat); rw [e1]; omega) ?_
    repeat first | refine opsStep ?_ | refine codeStep ?_ | refine drawStep ?_
    exact finV (v' := .str ((dgB.drop (n : Int).toNat).take ((IntKind.wrap .i64 ((n : Int) + 1)).toNat - (n : Int).toNat))) (by kernel_rfl) (by rw [e1, Int.toNat_natCast, Int.toNat_natCast, show n + 1 - n = 1 by omega, dgB_cut (by omega), dgL_small (by omega)])
  · have c : ¬ (n : Int) < 10 := c
    have e1 : IntKind.wrap .i64 ((n : Int) * 2) = ((2 * n : Nat) : Int) := by rw [IntWalk.i64_in _ (by omega)]; simp; omega
    have e2 : IntKind.wrap .i64 (IntKind.wrap .i64 ((n : Int) * 2) + 2) = ((2 * n + 2 : Nat) : Int) := by rw [e1, IntWalk.i64_in _ (by omega)]; simp
    repeat first | refine opsStep ?_ | refine codeStep ?_ | refine drawStep ?_
    refine guardE_of (by show (0 : Int) ≤ IntKind.wrap .i64 ((n : Int) * 2) ∧ IntKind.wrap .i64 ((n : Int) * 2) ≤ IntKind.wrap .i64 (IntKind.wrap .i64 ((n : Int) * 2) + 2) ∧ IntKind.wrap .i64 (IntKind.wrap .i64 ((n : Int) * 2) + 2) ≤ (200 : Nat); rw [e2, e1]; omega) ?_
    repeat first | refine opsStep ?_ | refine codeStep ?_ | refine drawStep ?_
    exact finV (v' := .str ((smB.drop (IntKind.wrap .i64 ((n : Int) * 2)).toNat).take ((IntKind.wrap .i64 (IntKind.wrap .i64 ((n : Int) * 2) + 2)).toNat - (IntKind.wrap .i64 ((n : Int) * 2)).toNat))) (by kernel_rfl) (by
      rw [e2, e1, Int.toNat_natCast, Int.toNat_natCast, show 2 * n + 2 - 2 * n = 2 by omega, smB_cut h, dgL_big (by omega), dgL_small (by omega)]; rfl)

theorem fmt_log (L : Nat) (h : L ≤ 64) : Pure Tryd.prog 126 [.int .i64 L] (.int .i64 (l10 L : Nat)) := by
  have e1 : IntKind.wrap .i64 ((L : Int) * 78913) = ((L * 78913 : Nat) : Int) := by rw [IntWalk.i64_in _ (by omega)]; simp
  refine Pure.of_sw 6 Tryd.func126 rfl Tryd.ntmps126 (by kernel_rfl) (Nat.le_of_ble_eq_true (by kernel_rfl)) (by simp [closeds, AV.closed, aSs_closed, aIs_closed, aBs_closed, aRs_closed, aDen_closed]) (by simp [AV.closed, closeds, aSs_closed, aIs_closed, aBs_closed, aRs_closed, aDen_closed]) ?_; refine SW.of_vc ?_
  repeat first | refine opsStep ?_ | refine codeStep ?_ | refine drawStep ?_
  refine finV (v' := .int .i64 ((IntKind.wrap .i64 ((L : Int) * 78913)).fdiv (2 ^ (min ((18 : Nat) : Int).toNat 64)))) (by kernel_rfl) ?_
  rw [e1, shr_nat _ 18 (by omega)]
  rfl
theorem fmt_bool2 (b : Bool) : Pure Tryd.prog 128 [.bool b] (.int .i64 (if b then 1 else 0)) := by
  refine Pure.of_sw 4 Tryd.func128 rfl Tryd.ntmps128 (by kernel_rfl) (Nat.le_of_ble_eq_true (by kernel_rfl)) (by simp [closeds, AV.closed, aSs_closed, aIs_closed, aBs_closed, aRs_closed, aDen_closed]) (by simp [AV.closed, closeds, aSs_closed, aIs_closed, aBs_closed, aRs_closed, aDen_closed]) ?_; refine SW.of_vc ?_
  repeat first | refine opsStep ?_ | refine codeStep ?_ | refine drawStep ?_
  refine decB_split (fun h => ?_) (fun h => ?_)
  · repeat first | refine opsStep ?_ | refine codeStep ?_ | refine drawStep ?_
    exact finV (v' := .int .i64 1) (by kernel_rfl) (by rw [h]; rfl)
  · repeat first | refine opsStep ?_ | refine codeStep ?_ | refine drawStep ?_
    exact finV (v' := .int .i64 0) (by kernel_rfl) (by rw [h]; rfl)
theorem pow_at {k : Nat} (h : k < 20) : (powA.drop ((k : Int).toNat * 1))[0]? = some (.int .u64 ((10 ^ k : Nat) : Int)) := by
  rw [Int.toNat_natCast, Nat.mul_one, powA, powZ, List.map_map, List.getElem?_drop, Nat.add_zero, List.getElem?_map, List.getElem?_range h]
  rfl
theorem fmt_nd (u : Nat) (h0 : 0 < u) (h : u < 2^64) : Pure Tryd.prog 106 [.int .u64 u] (.int .i64 (ndS u : Nat)) := by
  obtain ⟨a1, a2⟩ := lenN_le64 h0 h
  obtain ⟨_, _, k3⟩ := l10_ok _ a2 a1
  refine Pure.of_sw 15 Tryd.func106 rfl Tryd.ntmps106 (by kernel_rfl) (Nat.le_of_ble_eq_true (by kernel_rfl)) (by simp [closeds, AV.closed, aSs_closed, aIs_closed, aBs_closed, aRs_closed, aDen_closed]) (by simp [AV.closed, closeds, aSs_closed, aIs_closed, aBs_closed, aRs_closed, aDen_closed]) ?_; refine SW.of_vc ?_
  repeat first | refine opsStep ?_ | refine codeStep ?_ | refine drawStep ?_
  refine callP (Len64_val u h) ?_
  repeat first | refine opsStep ?_ | refine codeStep ?_ | refine drawStep ?_
  refine callP (fmt_log (lenN u) (by omega)) ?_
  repeat first | refine opsStep ?_ | refine codeStep ?_ | refine drawStep ?_
  refine guardE_of ⟨by omega, by show ((l10 (lenN u) : Nat) : Int) < 20; omega⟩ ?_
  repeat first | refine opsStep ?_ | refine codeStep ?_ | refine drawStep ?_
  refine optE_of (c := .int .u64 ((10 ^ l10 (lenN u) : Nat) : Int)) (pow_at (by omega)) ?_
  repeat first | refine opsStep ?_ | refine codeStep ?_ | refine drawStep ?_
  refine callP (fmt_bool2 _) ?_
  repeat first | refine opsStep ?_ | refine codeStep ?_ | refine drawStep ?_
  refine finV (v' := .int .i64 (IntKind.wrap .i64 (((l10 (lenN u) : Nat) : Int) + (if decide ((u : Int) ≥ ((10 ^ l10 (lenN u) : Nat) : Int)) then 1 else 0)))) (by kernel_rfl) ?_
  rw [ndS]
  by_cases hc : 10 ^ l10 (lenN u) ≤ u
  · rw [if_pos hc, if_pos (by rw [decide_eq_true_eq]; exact Int.ofNat_le.2 hc), IntWalk.i64_in _ (by omega)]
    rfl
  · rw [if_neg hc, if_neg (by rw [decide_eq_true_eq]; exact fun k => hc (Int.ofNat_le.1 k)), IntWalk.i64_in _ (by omega)]
    rfl

end Tab

/- A number's digits are laid down. -/
namespace Tab
open Go Go.Proofs
set_option maxRecDepth 10000
set_option linter.unusedVariables false
set_option linter.unusedSimpArgs false
set_option linter.unusedSectionVars false
set_option maxHeartbeats 2000000

theorem tmN (a b : Nat) : ((a : Nat) : Int).tmod ((b : Nat) : Int) = ((a % b : Nat) : Int) := (Int.ofNat_tmod a b).symm
theorem tdN (a b : Nat) : ((a : Nat) : Int).tdiv ((b : Nat) : Int) = ((a / b : Nat) : Int) := (Int.ofNat_tdiv a b).symm
theorem w32 {n : Nat} (h : n < 4294967296) : IntKind.wrap .u32 ((n : Nat) : Int) = n := IntWalk.u32_in _ (by omega)
theorem w64 {n : Nat} (h : n < 18446744073709551616) : IntKind.wrap .u64 ((n : Nat) : Int) = n := IntWalk.u64_in _ (by omega)
theorem m2 (n : Nat) : ((n : Nat) : Int) * 2 = ((2 * n : Nat) : Int) := by push_cast; omega

def bytA (l : List UInt8) : List AV := l.map fun c => .int .u8 c.toNat
def celF (hd : List AV) (dg : List UInt8) (rest : List AV) : List AV := hd ++ bytA dg ++ rest
theorem bytA_app (a b : List UInt8) : bytA (a ++ b) = bytA a ++ bytA b := by simp [bytA]
theorem celF_len (hd dg rest) : (celF hd dg rest).length = hd.length + dg.length + rest.length := by simp [celF, bytA]; omega
/-- Two digits more. -/
theorem put2 {hd : List AV} {dg : List UInt8} {rest : List AV} {n k : Nat} (h : hd.length = n + 2) :
    over (over (celF hd dg rest) (n + 1) [.int .u8 (UInt8.ofNat (48 + k % 10)).toNat]) n [.int .u8 (UInt8.ofNat (48 + k / 10)).toNat] = celF (hd.take n) (sm2 k ++ dg) rest := by
  have hl := celF_len hd dg rest
  rw [over_one (cs := celF hd dg rest) (i := n + 1) (by omega), over_one (by rw [List.length_set]; omega)]
  have e : hd = hd.take n ++ [hd[n]'(by omega), hd[n + 1]'(by omega)] := by
    conv => lhs; rw [← List.take_append_drop n hd, List.drop_eq_getElem_cons (show n < hd.length by omega), List.drop_eq_getElem_cons (show n + 1 < hd.length by omega), List.drop_of_length_le (by omega)]
  have hn : (hd.take n).length = n := by rw [List.length_take]; omega
  generalize hd.take n = a at *
  generalize hd[n]'(by omega) = x at *
  generalize hd[n + 1]'(by omega) = y at *
  subst e
  subst hn
  rw [celF, celF, bytA_app]
  simp [List.append_assoc, List.set_append, bytA, sm2]
theorem put1 {x : AV} {dg : List UInt8} {rest : List AV} {c0 : AV} {k : Nat} : over (celF [c0, x] dg rest) 1 [.int .u8 (UInt8.ofNat (48 + k)).toNat] = celF [c0] (UInt8.ofNat (48 + k) :: dg) rest := by
  rw [over_one (by rw [celF_len]; simp; omega)]
  simp [celF, bytA]

theorem subN {n a : Nat} (h : a ≤ n) (hn : n ≤ 30) : IntKind.wrap .i64 ((n : Int) - (a : Int)) = ((n - a : Nat) : Int) := by rw [IntWalk.i64_in _ (by omega)]; omega
theorem inc32 {j : Nat} (h : j < 100) : IntKind.wrap .u32 (((2 * j : Nat) : Int) + 1) = ((2 * j + 1 : Nat) : Int) := by rw [IntWalk.u32_in _ (by omega)]; simp
theorem over_lenI {cs : List AV} {i : Nat} {x : AV} (h : i < cs.length) : (over cs i [x]).length = cs.length := by rw [over_one h, List.length_set]
theorem fmt10 (u nd : Nat) (hd rest : List AV) (h1 : 1 ≤ nd) (h2 : nd ≤ 20) (hu : u < 10 ^ nd) (hu2 : u < 2^64) (hhd : hd.length = nd + 1) : ACall Tryd.prog 107 [.hs 0 0 1 nd 1, .int .u64 u] [.cells 0 (hd ++ rest)] fun o H' => o = .ret (.tup []) ∧ H' = [.cells 0 (celF (hd.take 1) (padL nd u) rest)] := by
  refine ACall.of_sw 167 Tryd.func107 rfl Tryd.ntmps107 (by kernel_rfl) (Nat.le_of_ble_eq_true (by kernel_rfl)) ?_; refine SW.of_vc ?_
  repeat first | refine opsStep ?_ | refine codeStep ?_ | refine drawStep ?_
  refine loopE_of (ι := {x : Nat × Nat × List UInt8 // x.1 ≤ nd ∧ padL nd u = padL x.1 x.2.1 ++ x.2.2 ∧ x.2.1 < 10 ^ x.1 ∧ x.2.1 < 2^64 ∧ x.2.2.length = nd - x.1}) (fun x => (fr [(0, .hs 0 0 1 nd 1), (1, .int .u64 x.1.2.1), (4, .int .i64 x.1.1)], [.cells 0 (celF (hd.take (x.1.1 + 1)) x.1.2.2 rest)])) (fun x => x.1.1)
    ⟨(nd, u, []), Nat.le_refl _, by simp, hu, hu2, by simp⟩ (Ent.fr' ⟨(by kernel_rfl), (by kernel_rfl), (by kernel_rfl), trivial⟩ (Eq.trans (b := [.cells 0 (hd ++ rest)]) (by kernel_rfl) (by simp only [celF, bytA, List.map_nil, List.append_nil]; rw [List.take_of_length_le (by omega)]))) ?_
  rintro ⟨⟨n, v, dg⟩, k1, k2, k3, k4, k5⟩
  simp only at k1 k2 k3 k4 k5
  repeat first | refine opsStep ?_ | refine codeStep ?_ | refine drawStep ?_
  refine decB_dec (fun c => ?_) (fun c => ?_)
  · have c : (n : Int) ≥ 8 := c
    have t1 : (hd.take (n + 1)).length = n + 1 := by rw [List.length_take]; omega
    have t2 : (hd.take (n - 1)).length = n - 1 := by rw [List.length_take]; omega
    have t3 : (hd.take (n - 3)).length = n - 3 := by rw [List.length_take]; omega
    have t4 : (hd.take (n - 5)).length = n - 5 := by rw [List.length_take]; omega
    have X : IntKind.wrap .u32 ((v : Int).tmod 100000000) = ((v % 100000000 : Nat) : Int) := by rw [show (100000000 : Int) = ((100000000 : Nat) : Int) from rfl, tmN, w32 (by omega)]
    have V : IntKind.wrap .u64 ((v : Int).tdiv 100000000) = ((v / 100000000 : Nat) : Int) := by rw [show (100000000 : Int) = ((100000000 : Nat) : Int) from rfl, tdN, w64 (by omega)]
    generalize hy : v % 100000000 = y at X
    have hy1 : y < 100000000 := by omega
    have x32 : IntKind.wrap .u32 ((y : Int).tdiv 10000) = ((y / 10000 : Nat) : Int) := by rw [show (10000 : Int) = ((10000 : Nat) : Int) from rfl, tdN, w32 (by omega)]
    have x10 : (y : Int).tmod 10000 = ((y % 10000 : Nat) : Int) := by rw [show (10000 : Int) = ((10000 : Nat) : Int) from rfl, tmN]
    have dv : ∀ z : Nat, z < 10000 → IntKind.wrap .u32 (IntKind.wrap .u32 ((z : Int).tdiv 100) * 2) = ((2 * (z / 100) : Nat) : Int) := fun z hz => by
      rw [show (100 : Int) = ((100 : Nat) : Int) from rfl, tdN, w32 (by omega), m2, w32 (by omega)]
    have mv : ∀ z : Nat, z < 10000 → IntKind.wrap .u32 ((z : Int).tmod 100 * 2) = ((2 * (z % 100) : Nat) : Int) := fun z hz => by
      rw [show (100 : Int) = ((100 : Nat) : Int) from rfl, tmN, m2, w32 (by omega)]
    have h0 : (IntKind.wrap .u32 (((((IntKind.wrap .u32 ((v : Int).tmod 100000000))).tmod 10000)).tmod 100 * 2)) = ((2 * (y % 10000 % 100) : Nat) : Int) := by rw [X, x10, mv _ (by omega)]
    have h1' : (IntKind.wrap .u32 (IntKind.wrap .u32 (((((IntKind.wrap .u32 ((v : Int).tmod 100000000))).tmod 10000)).tdiv 100) * 2)) = ((2 * (y % 10000 / 100) : Nat) : Int) := by rw [X, x10, dv _ (by omega)]
    have h2' : (IntKind.wrap .u32 (((IntKind.wrap .u32 (((IntKind.wrap .u32 ((v : Int).tmod 100000000))).tdiv 10000))).tmod 100 * 2)) = ((2 * (y / 10000 % 100) : Nat) : Int) := by rw [X, x32, mv _ (by omega)]
    have h3' : (IntKind.wrap .u32 (IntKind.wrap .u32 (((IntKind.wrap .u32 (((IntKind.wrap .u32 ((v : Int).tmod 100000000))).tdiv 10000))).tdiv 100) * 2)) = ((2 * (y / 10000 / 100) : Nat) : Int) := by rw [X, x32, dv _ (by omega)]
    repeat first | refine opsStep ?_ | refine codeStep ?_ | refine drawStep ?_
    refine SW.drawn rfl (by kernel_rfl) ?_
    repeat first | refine opsStep ?_ | refine codeStep ?_ | refine drawStep ?_
    refine guardE_of (by show (0 : Int) ≤ IntKind.wrap .u32 ((IntKind.wrap .u32 (((((IntKind.wrap .u32 ((v : Int).tmod 100000000))).tmod 10000)).tmod 100 * 2)) + 1); rw [h0, inc32 (by omega)]; omega) ?_
    refine optE_of (c := UInt8.ofNat (48 + (y % 10000 % 100) % 10)) (Eq.trans (b := smB[(IntKind.wrap .u32 ((IntKind.wrap .u32 (((((IntKind.wrap .u32 ((v : Int).tmod 100000000))).tmod 10000)).tmod 100 * 2)) + 1)).toNat]?) (by kernel_rfl) (by rw [h0, inc32 (by omega), Int.toNat_natCast]; exact (smB_at (by omega)).2)) ?_
    repeat first | refine opsStep ?_ | refine codeStep ?_ | refine drawStep ?_
    refine guardE_of (by show (0 : Int) ≤ (IntKind.wrap .u32 (((((IntKind.wrap .u32 ((v : Int).tmod 100000000))).tmod 10000)).tmod 100 * 2)); rw [h0]; omega) ?_
    refine optE_of (c := UInt8.ofNat (48 + (y % 10000 % 100) / 10)) (Eq.trans (b := smB[((IntKind.wrap .u32 (((((IntKind.wrap .u32 ((v : Int).tmod 100000000))).tmod 10000)).tmod 100 * 2))).toNat]?) (by kernel_rfl) (by rw [h0, Int.toNat_natCast]; exact (smB_at (by omega)).1)) ?_
    repeat first | refine opsStep ?_ | refine codeStep ?_ | refine drawStep ?_
    refine guardE_of (by show (0 : Int) ≤ IntKind.wrap .i64 ((n : Int) - ((1 : Nat) : Int)) ∧ IntKind.wrap .i64 ((n : Int) - ((1 : Nat) : Int)) < (nd : Int); rw [subN (by omega) (by omega)]; omega) ?_
    repeat first | refine opsStep ?_ | refine codeStep ?_ | refine drawStep ?_
    refine guardE_of ⟨rfl, by decide, by show 1 + (IntKind.wrap .i64 ((n : Int) - ((1 : Nat) : Int))).toNat * 1 + 1 ≤ (celF (hd.take (n + 1)) dg rest).length; rw [subN (by omega) (by omega), Int.toNat_natCast, celF_len, t1]; omega⟩ ?_
    repeat first | refine opsStep ?_ | refine codeStep ?_ | refine drawStep ?_
    refine guardE_of (by show (0 : Int) ≤ IntKind.wrap .i64 ((n : Int) - ((2 : Nat) : Int)) ∧ IntKind.wrap .i64 ((n : Int) - ((2 : Nat) : Int)) < (nd : Int); rw [subN (by omega) (by omega)]; omega) ?_
    repeat first | refine opsStep ?_ | refine codeStep ?_ | refine drawStep ?_
    refine guardE_of ⟨rfl, by decide, by show 1 + (IntKind.wrap .i64 ((n : Int) - ((2 : Nat) : Int))).toNat * 1 + 1 ≤ (over (celF (hd.take (n + 1)) dg rest) (1 + (IntKind.wrap .i64 ((n : Int) - ((1 : Nat) : Int))).toNat * 1) [.int .u8 (UInt8.ofNat (48 + (y % 10000 % 100) % 10)).toNat]).length; rw [subN (by omega) (by omega), subN (by omega) (by omega), Int.toNat_natCast, Int.toNat_natCast, over_lenI (by rw [celF_len, t1]; omega), celF_len, t1]; omega⟩ ?_
    repeat first | refine opsStep ?_ | refine codeStep ?_ | refine drawStep ?_
    refine ⟨by kernel_rfl, ?_⟩
    refine VCode.ent (Ent.fr' (l := [(0, .hs 0 0 1 nd 1), (1, .int .u64 (v / 100000000 : Nat)), (4, .int .i64 n), (8, .int .u32 (2 * (y % 10000 / 100) : Nat)), (10, .int .u32 (2 * (y / 10000 / 100) : Nat)), (11, .int .u32 (2 * (y / 10000 % 100) : Nat))]) (H' := [.cells 0 (celF (hd.take (1 + (n - 2))) (sm2 ((y % 10000 % 100)) ++ dg) rest)]) ⟨(by kernel_rfl), congrArg (AV.int .u64) V, (by kernel_rfl), congrArg (AV.int .u32) h1', congrArg (AV.int .u32) h3', congrArg (AV.int .u32) h2', trivial⟩ (Eq.trans (b := [.cells 0 (over (over (celF (hd.take (n + 1)) dg rest) (1 + (IntKind.wrap .i64 ((n : Int) - ((1 : Nat) : Int))).toNat * 1) [.int .u8 (UInt8.ofNat (48 + (y % 10000 % 100) % 10)).toNat]) (1 + (IntKind.wrap .i64 ((n : Int) - ((2 : Nat) : Int))).toNat * 1) [.int .u8 (UInt8.ofNat (48 + (y % 10000 % 100) / 10)).toNat])]) (by kernel_rfl) (by
      rw [subN (by omega) (by omega), subN (by omega) (by omega), Int.toNat_natCast, Int.toNat_natCast, show 1 + (n - 1) * 1 = (1 + (n - 2)) + 1 by omega, show 1 + (n - 2) * 1 = 1 + (n - 2) by omega, put2 (by rw [t1]; omega), List.take_take, Nat.min_eq_left (by omega)]))) ?_
    have s2 : (hd.take (1 + (n - 2))).length = 1 + (n - 2) := by rw [List.length_take]; omega
    have s4 : (hd.take (1 + (n - 4))).length = 1 + (n - 4) := by rw [List.length_take]; omega
    have s6 : (hd.take (1 + (n - 6))).length = 1 + (n - 6) := by rw [List.length_take]; omega
    clear h0 h1' h2' h3' X V x32 x10 dv mv
    repeat first | refine opsStep ?_ | refine codeStep ?_ | refine drawStep ?_
    refine SW.drawn rfl (by kernel_rfl) ?_
    repeat first | refine opsStep ?_ | refine codeStep ?_ | refine drawStep ?_
    refine guardE_of (by show (0 : Int) ≤ IntKind.wrap .u32 (((2 * (y % 10000 / 100) : Nat) : Int) + 1); rw [(rfl : ((2 * (y % 10000 / 100) : Nat) : Int) = ((2 * (y % 10000 / 100) : Nat) : Int)), inc32 (by omega)]; omega) ?_
    refine optE_of (c := UInt8.ofNat (48 + (y % 10000 / 100) % 10)) (Eq.trans (b := smB[(IntKind.wrap .u32 (((2 * (y % 10000 / 100) : Nat) : Int) + 1)).toNat]?) (by kernel_rfl) (by rw [(rfl : ((2 * (y % 10000 / 100) : Nat) : Int) = ((2 * (y % 10000 / 100) : Nat) : Int)), inc32 (by omega), Int.toNat_natCast]; exact (smB_at (by omega)).2)) ?_
    repeat first | refine opsStep ?_ | refine codeStep ?_ | refine drawStep ?_
    refine guardE_of (by show (0 : Int) ≤ ((2 * (y % 10000 / 100) : Nat) : Int); rw [(rfl : ((2 * (y % 10000 / 100) : Nat) : Int) = ((2 * (y % 10000 / 100) : Nat) : Int))]; omega) ?_
    refine optE_of (c := UInt8.ofNat (48 + (y % 10000 / 100) / 10)) (Eq.trans (b := smB[(((2 * (y % 10000 / 100) : Nat) : Int)).toNat]?) (by kernel_rfl) (by rw [(rfl : ((2 * (y % 10000 / 100) : Nat) : Int) = ((2 * (y % 10000 / 100) : Nat) : Int)), Int.toNat_natCast]; exact (smB_at (by omega)).1)) ?_
    repeat first | refine opsStep ?_ | refine codeStep ?_ | refine drawStep ?_
    refine guardE_of (by show (0 : Int) ≤ IntKind.wrap .i64 ((n : Int) - ((3 : Nat) : Int)) ∧ IntKind.wrap .i64 ((n : Int) - ((3 : Nat) : Int)) < (nd : Int); rw [subN (by omega) (by omega)]; omega) ?_
    repeat first | refine opsStep ?_ | refine codeStep ?_ | refine drawStep ?_
    refine guardE_of ⟨rfl, by decide, by show 1 + (IntKind.wrap .i64 ((n : Int) - ((3 : Nat) : Int))).toNat * 1 + 1 ≤ (celF (hd.take (1 + (n - 2))) (sm2 (y % 10000 % 100) ++ dg) rest).length; rw [subN (by omega) (by omega), Int.toNat_natCast, celF_len, s2]; omega⟩ ?_
    repeat first | refine opsStep ?_ | refine codeStep ?_ | refine drawStep ?_
    refine guardE_of (by show (0 : Int) ≤ IntKind.wrap .i64 ((n : Int) - ((4 : Nat) : Int)) ∧ IntKind.wrap .i64 ((n : Int) - ((4 : Nat) : Int)) < (nd : Int); rw [subN (by omega) (by omega)]; omega) ?_
    repeat first | refine opsStep ?_ | refine codeStep ?_ | refine drawStep ?_
    refine guardE_of ⟨rfl, by decide, by show 1 + (IntKind.wrap .i64 ((n : Int) - ((4 : Nat) : Int))).toNat * 1 + 1 ≤ (over (celF (hd.take (1 + (n - 2))) (sm2 (y % 10000 % 100) ++ dg) rest) (1 + (IntKind.wrap .i64 ((n : Int) - ((3 : Nat) : Int))).toNat * 1) [.int .u8 (UInt8.ofNat (48 + (y % 10000 / 100) % 10)).toNat]).length; rw [subN (by omega) (by omega), subN (by omega) (by omega), Int.toNat_natCast, Int.toNat_natCast, over_lenI (by rw [celF_len, s2]; omega), celF_len, s2]; omega⟩ ?_
    repeat first | refine opsStep ?_ | refine codeStep ?_ | refine drawStep ?_
    refine ⟨by kernel_rfl, ?_⟩
    refine VCode.ent (Ent.fr' (l := [(0, .hs 0 0 1 nd 1), (1, .int .u64 (v / 100000000 : Nat)), (4, .int .i64 n), (10, .int .u32 (2 * (y / 10000 / 100) : Nat)), (11, .int .u32 (2 * (y / 10000 % 100) : Nat))]) (H' := [.cells 0 (celF (hd.take (1 + (n - 4))) (sm2 ((y % 10000 / 100)) ++ (sm2 (y % 10000 % 100) ++ dg)) rest)]) ⟨(by kernel_rfl), (by kernel_rfl), (by kernel_rfl), (by kernel_rfl), (by kernel_rfl), trivial⟩ (Eq.trans (b := [.cells 0 (over (over (celF (hd.take (1 + (n - 2))) (sm2 (y % 10000 % 100) ++ dg) rest) (1 + (IntKind.wrap .i64 ((n : Int) - ((3 : Nat) : Int))).toNat * 1) [.int .u8 (UInt8.ofNat (48 + (y % 10000 / 100) % 10)).toNat]) (1 + (IntKind.wrap .i64 ((n : Int) - ((4 : Nat) : Int))).toNat * 1) [.int .u8 (UInt8.ofNat (48 + (y % 10000 / 100) / 10)).toNat])]) (by kernel_rfl) (by
      rw [subN (by omega) (by omega), subN (by omega) (by omega), Int.toNat_natCast, Int.toNat_natCast, show 1 + (n - 3) * 1 = (1 + (n - 4)) + 1 by omega, show 1 + (n - 4) * 1 = 1 + (n - 4) by omega, put2 (by rw [s2]; omega), List.take_take, Nat.min_eq_left (by omega)]))) ?_
    repeat first | refine opsStep ?_ | refine codeStep ?_ | refine drawStep ?_
    refine SW.drawn rfl (by kernel_rfl) ?_
    repeat first | refine opsStep ?_ | refine codeStep ?_ | refine drawStep ?_
    refine guardE_of (by show (0 : Int) ≤ IntKind.wrap .u32 (((2 * (y / 10000 % 100) : Nat) : Int) + 1); rw [(rfl : ((2 * (y / 10000 % 100) : Nat) : Int) = ((2 * (y / 10000 % 100) : Nat) : Int)), inc32 (by omega)]; omega) ?_
    refine optE_of (c := UInt8.ofNat (48 + (y / 10000 % 100) % 10)) (Eq.trans (b := smB[(IntKind.wrap .u32 (((2 * (y / 10000 % 100) : Nat) : Int) + 1)).toNat]?) (by kernel_rfl) (by rw [(rfl : ((2 * (y / 10000 % 100) : Nat) : Int) = ((2 * (y / 10000 % 100) : Nat) : Int)), inc32 (by omega), Int.toNat_natCast]; exact (smB_at (by omega)).2)) ?_
    repeat first | refine opsStep ?_ | refine codeStep ?_ | refine drawStep ?_
    refine guardE_of (by show (0 : Int) ≤ ((2 * (y / 10000 % 100) : Nat) : Int); rw [(rfl : ((2 * (y / 10000 % 100) : Nat) : Int) = ((2 * (y / 10000 % 100) : Nat) : Int))]; omega) ?_
    refine optE_of (c := UInt8.ofNat (48 + (y / 10000 % 100) / 10)) (Eq.trans (b := smB[(((2 * (y / 10000 % 100) : Nat) : Int)).toNat]?) (by kernel_rfl) (by rw [(rfl : ((2 * (y / 10000 % 100) : Nat) : Int) = ((2 * (y / 10000 % 100) : Nat) : Int)), Int.toNat_natCast]; exact (smB_at (by omega)).1)) ?_
    repeat first | refine opsStep ?_ | refine codeStep ?_ | refine drawStep ?_
    refine guardE_of (by show (0 : Int) ≤ IntKind.wrap .i64 ((n : Int) - ((5 : Nat) : Int)) ∧ IntKind.wrap .i64 ((n : Int) - ((5 : Nat) : Int)) < (nd : Int); rw [subN (by omega) (by omega)]; omega) ?_
    repeat first | refine opsStep ?_ | refine codeStep ?_ | refine drawStep ?_
    refine guardE_of ⟨rfl, by decide, by show 1 + (IntKind.wrap .i64 ((n : Int) - ((5 : Nat) : Int))).toNat * 1 + 1 ≤ (celF (hd.take (1 + (n - 4))) (sm2 (y % 10000 / 100) ++ (sm2 (y % 10000 % 100) ++ dg)) rest).length; rw [subN (by omega) (by omega), Int.toNat_natCast, celF_len, s4]; omega⟩ ?_
    repeat first | refine opsStep ?_ | refine codeStep ?_ | refine drawStep ?_
    refine guardE_of (by show (0 : Int) ≤ IntKind.wrap .i64 ((n : Int) - ((6 : Nat) : Int)) ∧ IntKind.wrap .i64 ((n : Int) - ((6 : Nat) : Int)) < (nd : Int); rw [subN (by omega) (by omega)]; omega) ?_
    repeat first | refine opsStep ?_ | refine codeStep ?_ | refine drawStep ?_
    refine guardE_of ⟨rfl, by decide, by show 1 + (IntKind.wrap .i64 ((n : Int) - ((6 : Nat) : Int))).toNat * 1 + 1 ≤ (over (celF (hd.take (1 + (n - 4))) (sm2 (y % 10000 / 100) ++ (sm2 (y % 10000 % 100) ++ dg)) rest) (1 + (IntKind.wrap .i64 ((n : Int) - ((5 : Nat) : Int))).toNat * 1) [.int .u8 (UInt8.ofNat (48 + (y / 10000 % 100) % 10)).toNat]).length; rw [subN (by omega) (by omega), subN (by omega) (by omega), Int.toNat_natCast, Int.toNat_natCast, over_lenI (by rw [celF_len, s4]; omega), celF_len, s4]; omega⟩ ?_
    repeat first | refine opsStep ?_ | refine codeStep ?_ | refine drawStep ?_
    refine ⟨by kernel_rfl, ?_⟩
    refine VCode.ent (Ent.fr' (l := [(0, .hs 0 0 1 nd 1), (1, .int .u64 (v / 100000000 : Nat)), (4, .int .i64 n), (10, .int .u32 (2 * (y / 10000 / 100) : Nat))]) (H' := [.cells 0 (celF (hd.take (1 + (n - 6))) (sm2 ((y / 10000 % 100)) ++ (sm2 (y % 10000 / 100) ++ (sm2 (y % 10000 % 100) ++ dg))) rest)]) ⟨(by kernel_rfl), (by kernel_rfl), (by kernel_rfl), (by kernel_rfl), trivial⟩ (Eq.trans (b := [.cells 0 (over (over (celF (hd.take (1 + (n - 4))) (sm2 (y % 10000 / 100) ++ (sm2 (y % 10000 % 100) ++ dg)) rest) (1 + (IntKind.wrap .i64 ((n : Int) - ((5 : Nat) : Int))).toNat * 1) [.int .u8 (UInt8.ofNat (48 + (y / 10000 % 100) % 10)).toNat]) (1 + (IntKind.wrap .i64 ((n : Int) - ((6 : Nat) : Int))).toNat * 1) [.int .u8 (UInt8.ofNat (48 + (y / 10000 % 100) / 10)).toNat])]) (by kernel_rfl) (by
      rw [subN (by omega) (by omega), subN (by omega) (by omega), Int.toNat_natCast, Int.toNat_natCast, show 1 + (n - 5) * 1 = (1 + (n - 6)) + 1 by omega, show 1 + (n - 6) * 1 = 1 + (n - 6) by omega, put2 (by rw [s4]; omega), List.take_take, Nat.min_eq_left (by omega)]))) ?_
    repeat first | refine opsStep ?_ | refine codeStep ?_ | refine drawStep ?_
    refine SW.drawn rfl (by kernel_rfl) ?_
    repeat first | refine opsStep ?_ | refine codeStep ?_ | refine drawStep ?_
    refine guardE_of (by show (0 : Int) ≤ IntKind.wrap .u32 (((2 * (y / 10000 / 100) : Nat) : Int) + 1); rw [(rfl : ((2 * (y / 10000 / 100) : Nat) : Int) = ((2 * (y / 10000 / 100) : Nat) : Int)), inc32 (by omega)]; omega) ?_
    refine optE_of (c := UInt8.ofNat (48 + (y / 10000 / 100) % 10)) (Eq.trans (b := smB[(IntKind.wrap .u32 (((2 * (y / 10000 / 100) : Nat) : Int) + 1)).toNat]?) (by kernel_rfl) (by rw [(rfl : ((2 * (y / 10000 / 100) : Nat) : Int) = ((2 * (y / 10000 / 100) : Nat) : Int)), inc32 (by omega), Int.toNat_natCast]; exact (smB_at (by omega)).2)) ?_
    repeat first | refine opsStep ?_ | refine codeStep ?_ | refine drawStep ?_
    refine guardE_of (by show (0 : Int) ≤ ((2 * (y / 10000 / 100) : Nat) : Int); rw [(rfl : ((2 * (y / 10000 / 100) : Nat) : Int) = ((2 * (y / 10000 / 100) : Nat) : Int))]; omega) ?_
    refine optE_of (c := UInt8.ofNat (48 + (y / 10000 / 100) / 10)) (Eq.trans (b := smB[(((2 * (y / 10000 / 100) : Nat) : Int)).toNat]?) (by kernel_rfl) (by rw [(rfl : ((2 * (y / 10000 / 100) : Nat) : Int) = ((2 * (y / 10000 / 100) : Nat) : Int)), Int.toNat_natCast]; exact (smB_at (by omega)).1)) ?_
    repeat first | refine opsStep ?_ | refine codeStep ?_ | refine drawStep ?_
    refine guardE_of (by show (0 : Int) ≤ IntKind.wrap .i64 ((n : Int) - ((7 : Nat) : Int)) ∧ IntKind.wrap .i64 ((n : Int) - ((7 : Nat) : Int)) < (nd : Int); rw [subN (by omega) (by omega)]; omega) ?_
    repeat first | refine opsStep ?_ | refine codeStep ?_ | refine drawStep ?_
    refine guardE_of ⟨rfl, by decide, by show 1 + (IntKind.wrap .i64 ((n : Int) - ((7 : Nat) : Int))).toNat * 1 + 1 ≤ (celF (hd.take (1 + (n - 6))) (sm2 (y / 10000 % 100) ++ (sm2 (y % 10000 / 100) ++ (sm2 (y % 10000 % 100) ++ dg))) rest).length; rw [subN (by omega) (by omega), Int.toNat_natCast, celF_len, s6]; omega⟩ ?_
    repeat first | refine opsStep ?_ | refine codeStep ?_ | refine drawStep ?_
    refine guardE_of (by show (0 : Int) ≤ IntKind.wrap .i64 ((n : Int) - ((8 : Nat) : Int)) ∧ IntKind.wrap .i64 ((n : Int) - ((8 : Nat) : Int)) < (nd : Int); rw [subN (by omega) (by omega)]; omega) ?_
    repeat first | refine opsStep ?_ | refine codeStep ?_ | refine drawStep ?_
    refine guardE_of ⟨rfl, by decide, by show 1 + (IntKind.wrap .i64 ((n : Int) - ((8 : Nat) : Int))).toNat * 1 + 1 ≤ (over (celF (hd.take (1 + (n - 6))) (sm2 (y / 10000 % 100) ++ (sm2 (y % 10000 / 100) ++ (sm2 (y % 10000 % 100) ++ dg))) rest) (1 + (IntKind.wrap .i64 ((n : Int) - ((7 : Nat) : Int))).toNat * 1) [.int .u8 (UInt8.ofNat (48 + (y / 10000 / 100) % 10)).toNat]).length; rw [subN (by omega) (by omega), subN (by omega) (by omega), Int.toNat_natCast, Int.toNat_natCast, over_lenI (by rw [celF_len, s6]; omega), celF_len, s6]; omega⟩ ?_
    repeat first | refine opsStep ?_ | refine codeStep ?_ | refine drawStep ?_
    refine ⟨by kernel_rfl, ?_⟩
    refine VCode.ent (Ent.fr' (l := [(0, .hs 0 0 1 nd 1), (1, .int .u64 (v / 100000000 : Nat)), (4, .int .i64 n)]) (H' := [.cells 0 (celF (hd.take (1 + (n - 8))) (sm2 ((y / 10000 / 100)) ++ (sm2 (y / 10000 % 100) ++ (sm2 (y % 10000 / 100) ++ (sm2 (y % 10000 % 100) ++ dg)))) rest)]) ⟨(by kernel_rfl), (by kernel_rfl), (by kernel_rfl), trivial⟩ (Eq.trans (b := [.cells 0 (over (over (celF (hd.take (1 + (n - 6))) (sm2 (y / 10000 % 100) ++ (sm2 (y % 10000 / 100) ++ (sm2 (y % 10000 % 100) ++ dg))) rest) (1 + (IntKind.wrap .i64 ((n : Int) - ((7 : Nat) : Int))).toNat * 1) [.int .u8 (UInt8.ofNat (48 + (y / 10000 / 100) % 10)).toNat]) (1 + (IntKind.wrap .i64 ((n : Int) - ((8 : Nat) : Int))).toNat * 1) [.int .u8 (UInt8.ofNat (48 + (y / 10000 / 100) / 10)).toNat])]) (by kernel_rfl) (by
      rw [subN (by omega) (by omega), subN (by omega) (by omega), Int.toNat_natCast, Int.toNat_natCast, show 1 + (n - 7) * 1 = (1 + (n - 8)) + 1 by omega, show 1 + (n - 8) * 1 = 1 + (n - 8) by omega, put2 (by rw [s6]; omega), List.take_take, Nat.min_eq_left (by omega)]))) ?_
    repeat first | refine opsStep ?_ | refine codeStep ?_ | refine drawStep ?_
    refine ⟨⟨(n - 8, v / 100000000, sm2 (y / 10000 / 100) ++ (sm2 (y / 10000 % 100) ++ (sm2 (y % 10000 / 100) ++ (sm2 (y % 10000 % 100) ++ dg)))), by simp only; omega, ?_, ?_, by simp only; omega, by simp [sm2]; omega⟩, (by show n - 8 < n; omega), Ent.fr' ⟨(by kernel_rfl), (by kernel_rfl), Eq.trans (b := .int .i64 (IntKind.wrap .i64 ((n : Int) - ((8 : Nat) : Int)))) (by kernel_rfl) (by rw [subN (by omega) (by omega)]), trivial⟩ (Eq.trans (b := [.cells 0 (celF (hd.take (1 + (n - 8))) (sm2 (y / 10000 / 100) ++ (sm2 (y / 10000 % 100) ++ (sm2 (y % 10000 / 100) ++ (sm2 (y % 10000 % 100) ++ dg)))) rest)]) (by kernel_rfl) (by rw [Nat.add_comm 1]))⟩
    · simp only
      rw [k2]
      conv => lhs; rw [show n = (n - 8) + 8 by omega, padL_add, pad8]
      rw [show y / 10000 / 100 = v / 1000000 % 100 by omega, show y / 10000 % 100 = v / 10000 % 100 by omega, show y % 10000 / 100 = v / 100 % 100 by omega, show y % 10000 % 100 = v % 100 by omega]
      simp [List.append_assoc]
    · simp only
      rw [Nat.div_lt_iff_lt_mul (by omega), show (100000000 : Nat) = 10 ^ 8 from rfl, ← Nat.pow_add, show n - 8 + 8 = n by omega]
      exact k3
  · have c : ¬ (n : Int) ≥ 8 := c
    have hv : v < 100000000 := Nat.lt_of_lt_of_le k3 (Nat.pow_le_pow_right (by omega) (by omega : n ≤ 8))
    have c8 : n < 8 := by omega
    clear c
    have e12 : IntKind.wrap .u32 ((v : Nat) : Int) = (v : Int) := w32 (by omega)
    have hc4 : ∃ n4 v4 dg4, (4 ≤ n ∧ n4 = n - 4 ∧ v4 = v / 10000 ∧ dg4 = sm2 (v % 10000 / 100) ++ (sm2 (v % 10000 % 100) ++ dg)) ∨ (n < 4 ∧ n4 = n ∧ v4 = v ∧ dg4 = dg) := by
      by_cases h : 4 ≤ n
      · exact ⟨_, _, _, .inl ⟨h, rfl, rfl, rfl⟩⟩
      · exact ⟨_, _, _, .inr ⟨by omega, rfl, rfl, rfl⟩⟩
    obtain ⟨n4, v4, dg4, hc4⟩ := hc4
    have q1 : n4 < 4 ∧ n4 ≤ nd ∧ v4 < 10 ^ n4 ∧ dg4.length = nd - n4 ∧ padL nd u = padL n4 v4 ++ dg4 := by
      rcases hc4 with ⟨a1, rfl, rfl, rfl⟩ | ⟨a1, rfl, rfl, rfl⟩
      · refine ⟨by omega, by omega, ?_, by simp [sm2]; omega, ?_⟩
        · rw [Nat.div_lt_iff_lt_mul (by omega), show (10000 : Nat) = 10 ^ 4 from rfl, ← Nat.pow_add, show n - 4 + 4 = n by omega]
          exact k3
        · rw [k2]
          conv => lhs; rw [show n = (n - 4) + 4 by omega, padL_add, pad4]
          rw [show v % 10000 / 100 = v / 100 % 100 by omega, show v % 10000 % 100 = v % 100 by omega]
          simp [List.append_assoc]
      · exact ⟨a1, k1, k3, k5, k2⟩
    have t1 : (hd.take (n + 1)).length = n + 1 := by rw [List.length_take]; omega
    have s2 : (hd.take (1 + (n - 2))).length = 1 + (n - 2) := by rw [List.length_take]; omega
    iterate 7 (first | refine opsStep ?_ | refine codeStep ?_)
    refine VCode.upto (fr [(0, .hs 0 0 1 nd 1), (4, .int .i64 n4), (12, .int .u32 v4)]) [.cells 0 (celF (hd.take (1 + n4)) dg4 rest)] ?_ ?_
    · repeat first | refine opsStep ?_ | refine codeStep ?_ | refine drawStep ?_
      refine decB_dec (fun c4 => ?_) (fun c4 => ?_)
      · have c4 : (n : Int) ≥ 4 := c4
        have hcc : 4 ≤ n ∧ n4 = n - 4 ∧ v4 = v / 10000 ∧ dg4 = sm2 (v % 10000 / 100) ++ (sm2 (v % 10000 % 100) ++ dg) := by
          rcases hc4 with h | h
          · exact h
          · omega
        have z10 : (IntKind.wrap .u32 ((v : Nat) : Int)).tmod 10000 = ((v % 10000 : Nat) : Int) := by rw [e12, show (10000 : Int) = ((10000 : Nat) : Int) from rfl, tmN]
        have zv : IntKind.wrap .u32 ((IntKind.wrap .u32 ((v : Nat) : Int)).tdiv 10000) = ((v / 10000 : Nat) : Int) := by rw [e12, show (10000 : Int) = ((10000 : Nat) : Int) from rfl, tdN, w32 (by omega)]
        have g0 : IntKind.wrap .u32 (((IntKind.wrap .u32 ((v : Nat) : Int)).tmod 10000).tmod 100 * 2) = ((2 * (v % 10000 % 100) : Nat) : Int) := by rw [z10, show (100 : Int) = ((100 : Nat) : Int) from rfl, tmN, m2, w32 (by omega)]
        have g1 : IntKind.wrap .u32 (IntKind.wrap .u32 (((IntKind.wrap .u32 ((v : Nat) : Int)).tmod 10000).tdiv 100) * 2) = ((2 * (v % 10000 / 100) : Nat) : Int) := by rw [z10, show (100 : Int) = ((100 : Nat) : Int) from rfl, tdN, w32 (by omega), m2, w32 (by omega)]
        repeat first | refine opsStep ?_ | refine codeStep ?_ | refine drawStep ?_
        refine SW.drawn rfl (by kernel_rfl) ?_
        repeat first | refine opsStep ?_ | refine codeStep ?_ | refine drawStep ?_
        refine guardE_of (by show (0 : Int) ≤ IntKind.wrap .u32 ((IntKind.wrap .u32 (((IntKind.wrap .u32 ((v : Nat) : Int)).tmod 10000).tmod 100 * 2)) + 1); rw [g0, inc32 (by omega)]; omega) ?_
        refine optE_of (c := UInt8.ofNat (48 + (v % 10000 % 100) % 10)) (Eq.trans (b := smB[(IntKind.wrap .u32 ((IntKind.wrap .u32 (((IntKind.wrap .u32 ((v : Nat) : Int)).tmod 10000).tmod 100 * 2)) + 1)).toNat]?) (by kernel_rfl) (by rw [g0, inc32 (by omega), Int.toNat_natCast]; exact (smB_at (by omega)).2)) ?_
        repeat first | refine opsStep ?_ | refine codeStep ?_ | refine drawStep ?_
        refine guardE_of (by show (0 : Int) ≤ (IntKind.wrap .u32 (((IntKind.wrap .u32 ((v : Nat) : Int)).tmod 10000).tmod 100 * 2)); rw [g0]; omega) ?_
        refine optE_of (c := UInt8.ofNat (48 + (v % 10000 % 100) / 10)) (Eq.trans (b := smB[((IntKind.wrap .u32 (((IntKind.wrap .u32 ((v : Nat) : Int)).tmod 10000).tmod 100 * 2))).toNat]?) (by kernel_rfl) (by rw [g0, Int.toNat_natCast]; exact (smB_at (by omega)).1)) ?_
        repeat first | refine opsStep ?_ | refine codeStep ?_ | refine drawStep ?_
        refine guardE_of (by show (0 : Int) ≤ IntKind.wrap .i64 ((n : Int) - ((1 : Nat) : Int)) ∧ IntKind.wrap .i64 ((n : Int) - ((1 : Nat) : Int)) < (nd : Int); rw [subN (by omega) (by omega)]; omega) ?_
        repeat first | refine opsStep ?_ | refine codeStep ?_ | refine drawStep ?_
        refine guardE_of ⟨rfl, by decide, by show 1 + (IntKind.wrap .i64 ((n : Int) - ((1 : Nat) : Int))).toNat * 1 + 1 ≤ (celF (hd.take (n + 1)) dg rest).length; rw [subN (by omega) (by omega), Int.toNat_natCast, celF_len, t1]; omega⟩ ?_
        repeat first | refine opsStep ?_ | refine codeStep ?_ | refine drawStep ?_
        refine guardE_of (by show (0 : Int) ≤ IntKind.wrap .i64 ((n : Int) - ((2 : Nat) : Int)) ∧ IntKind.wrap .i64 ((n : Int) - ((2 : Nat) : Int)) < (nd : Int); rw [subN (by omega) (by omega)]; omega) ?_
        repeat first | refine opsStep ?_ | refine codeStep ?_ | refine drawStep ?_
        refine guardE_of ⟨rfl, by decide, by show 1 + (IntKind.wrap .i64 ((n : Int) - ((2 : Nat) : Int))).toNat * 1 + 1 ≤ (over (celF (hd.take (n + 1)) dg rest) (1 + (IntKind.wrap .i64 ((n : Int) - ((1 : Nat) : Int))).toNat * 1) [.int .u8 (UInt8.ofNat (48 + (v % 10000 % 100) % 10)).toNat]).length; rw [subN (by omega) (by omega), subN (by omega) (by omega), Int.toNat_natCast, Int.toNat_natCast, over_lenI (by rw [celF_len, t1]; omega), celF_len, t1]; omega⟩ ?_
        repeat first | refine opsStep ?_ | refine codeStep ?_ | refine drawStep ?_
        refine ⟨by kernel_rfl, ?_⟩
        refine VCode.ent (Ent.fr' (l := [(0, .hs 0 0 1 nd 1), (4, .int .i64 n), (12, .int .u32 (v / 10000 : Nat)), (14, .int .u32 (2 * (v % 10000 / 100) : Nat))]) (H' := [.cells 0 (celF (hd.take (1 + (n - 2))) (sm2 ((v % 10000 % 100)) ++ dg) rest)]) ⟨(by kernel_rfl), (by kernel_rfl), congrArg (AV.int .u32) zv, congrArg (AV.int .u32) g1, trivial⟩ (Eq.trans (b := [.cells 0 (over (over (celF (hd.take (n + 1)) dg rest) (1 + (IntKind.wrap .i64 ((n : Int) - ((1 : Nat) : Int))).toNat * 1) [.int .u8 (UInt8.ofNat (48 + (v % 10000 % 100) % 10)).toNat]) (1 + (IntKind.wrap .i64 ((n : Int) - ((2 : Nat) : Int))).toNat * 1) [.int .u8 (UInt8.ofNat (48 + (v % 10000 % 100) / 10)).toNat])]) (by kernel_rfl) (by
          rw [subN (by omega) (by omega), subN (by omega) (by omega), Int.toNat_natCast, Int.toNat_natCast, show 1 + (n - 1) * 1 = (1 + (n - 2)) + 1 by omega, show 1 + (n - 2) * 1 = 1 + (n - 2) by omega, put2 (by rw [t1]; omega), List.take_take, Nat.min_eq_left (by omega)]))) ?_
        repeat first | refine opsStep ?_ | refine codeStep ?_ | refine drawStep ?_
        refine SW.drawn rfl (by kernel_rfl) ?_
        repeat first | refine opsStep ?_ | refine codeStep ?_ | refine drawStep ?_
        refine guardE_of (by show (0 : Int) ≤ IntKind.wrap .u32 (((2 * (v % 10000 / 100) : Nat) : Int) + 1); rw [(rfl : ((2 * (v % 10000 / 100) : Nat) : Int) = ((2 * (v % 10000 / 100) : Nat) : Int)), inc32 (by omega)]; omega) ?_
        refine optE_of (c := UInt8.ofNat (48 + (v % 10000 / 100) % 10)) (Eq.trans (b := smB[(IntKind.wrap .u32 (((2 * (v % 10000 / 100) : Nat) : Int) + 1)).toNat]?) (by kernel_rfl) (by rw [(rfl : ((2 * (v % 10000 / 100) : Nat) : Int) = ((2 * (v % 10000 / 100) : Nat) : Int)), inc32 (by omega), Int.toNat_natCast]; exact (smB_at (by omega)).2)) ?_
        repeat first | refine opsStep ?_ | refine codeStep ?_ | refine drawStep ?_
        refine guardE_of (by show (0 : Int) ≤ ((2 * (v % 10000 / 100) : Nat) : Int); rw [(rfl : ((2 * (v % 10000 / 100) : Nat) : Int) = ((2 * (v % 10000 / 100) : Nat) : Int))]; omega) ?_
        refine optE_of (c := UInt8.ofNat (48 + (v % 10000 / 100) / 10)) (Eq.trans (b := smB[(((2 * (v % 10000 / 100) : Nat) : Int)).toNat]?) (by kernel_rfl) (by rw [(rfl : ((2 * (v % 10000 / 100) : Nat) : Int) = ((2 * (v % 10000 / 100) : Nat) : Int)), Int.toNat_natCast]; exact (smB_at (by omega)).1)) ?_
        repeat first | refine opsStep ?_ | refine codeStep ?_ | refine drawStep ?_
        refine guardE_of (by show (0 : Int) ≤ IntKind.wrap .i64 ((n : Int) - ((3 : Nat) : Int)) ∧ IntKind.wrap .i64 ((n : Int) - ((3 : Nat) : Int)) < (nd : Int); rw [subN (by omega) (by omega)]; omega) ?_
        repeat first | refine opsStep ?_ | refine codeStep ?_ | refine drawStep ?_
        refine guardE_of ⟨rfl, by decide, by show 1 + (IntKind.wrap .i64 ((n : Int) - ((3 : Nat) : Int))).toNat * 1 + 1 ≤ (celF (hd.take (1 + (n - 2))) (sm2 (v % 10000 % 100) ++ dg) rest).length; rw [subN (by omega) (by omega), Int.toNat_natCast, celF_len, s2]; omega⟩ ?_
        repeat first | refine opsStep ?_ | refine codeStep ?_ | refine drawStep ?_
        refine guardE_of (by show (0 : Int) ≤ IntKind.wrap .i64 ((n : Int) - ((4 : Nat) : Int)) ∧ IntKind.wrap .i64 ((n : Int) - ((4 : Nat) : Int)) < (nd : Int); rw [subN (by omega) (by omega)]; omega) ?_
        repeat first | refine opsStep ?_ | refine codeStep ?_ | refine drawStep ?_
        refine guardE_of ⟨rfl, by decide, by show 1 + (IntKind.wrap .i64 ((n : Int) - ((4 : Nat) : Int))).toNat * 1 + 1 ≤ (over (celF (hd.take (1 + (n - 2))) (sm2 (v % 10000 % 100) ++ dg) rest) (1 + (IntKind.wrap .i64 ((n : Int) - ((3 : Nat) : Int))).toNat * 1) [.int .u8 (UInt8.ofNat (48 + (v % 10000 / 100) % 10)).toNat]).length; rw [subN (by omega) (by omega), subN (by omega) (by omega), Int.toNat_natCast, Int.toNat_natCast, over_lenI (by rw [celF_len, s2]; omega), celF_len, s2]; omega⟩ ?_
        repeat first | refine opsStep ?_ | refine codeStep ?_ | refine drawStep ?_
        refine ⟨by kernel_rfl, ?_⟩
        refine VCode.ent (Ent.fr' (l := [(0, .hs 0 0 1 nd 1), (4, .int .i64 n), (12, .int .u32 (v / 10000 : Nat))]) (H' := [.cells 0 (celF (hd.take (1 + (n - 4))) (sm2 ((v % 10000 / 100)) ++ (sm2 (v % 10000 % 100) ++ dg)) rest)]) ⟨(by kernel_rfl), (by kernel_rfl), (by kernel_rfl), trivial⟩ (Eq.trans (b := [.cells 0 (over (over (celF (hd.take (1 + (n - 2))) (sm2 (v % 10000 % 100) ++ dg) rest) (1 + (IntKind.wrap .i64 ((n : Int) - ((3 : Nat) : Int))).toNat * 1) [.int .u8 (UInt8.ofNat (48 + (v % 10000 / 100) % 10)).toNat]) (1 + (IntKind.wrap .i64 ((n : Int) - ((4 : Nat) : Int))).toNat * 1) [.int .u8 (UInt8.ofNat (48 + (v % 10000 / 100) / 10)).toNat])]) (by kernel_rfl) (by
          rw [subN (by omega) (by omega), subN (by omega) (by omega), Int.toNat_natCast, Int.toNat_natCast, show 1 + (n - 3) * 1 = (1 + (n - 4)) + 1 by omega, show 1 + (n - 4) * 1 = 1 + (n - 4) by omega, put2 (by rw [s2]; omega), List.take_take, Nat.min_eq_left (by omega)]))) ?_
        repeat first | refine opsStep ?_ | refine codeStep ?_ | refine drawStep ?_
        refine Ent.fr' ⟨(by kernel_rfl), Eq.trans (b := .int .i64 (IntKind.wrap .i64 ((n : Int) - ((4 : Nat) : Int)))) (by kernel_rfl) (by rw [subN (by omega) (by omega), hcc.2.1]), Eq.trans (b := .int .u32 (v / 10000 : Nat)) (by kernel_rfl) (by rw [hcc.2.2.1]), trivial⟩ (Eq.trans (b := [.cells 0 (celF (hd.take (1 + (n - 4))) (sm2 (v % 10000 / 100) ++ (sm2 (v % 10000 % 100) ++ dg)) rest)]) (by kernel_rfl) (by rw [hcc.2.1, hcc.2.2.2]))
      · have c4 : ¬ (n : Int) ≥ 4 := c4
        have hcc : n4 = n ∧ v4 = v ∧ dg4 = dg := by
          rcases hc4 with h | h
          · omega
          · exact h.2
        repeat first | refine opsStep ?_ | refine codeStep ?_ | refine drawStep ?_
        refine Ent.fr' ⟨(by kernel_rfl), Eq.trans (b := .int .i64 n) (by kernel_rfl) (by rw [hcc.1]), Eq.trans (b := .int .u32 (IntKind.wrap .u32 ((v : Nat) : Int))) (by kernel_rfl) (by rw [e12, hcc.2.1]), trivial⟩ (Eq.trans (b := [.cells 0 (celF (hd.take (n + 1)) dg rest)]) (by kernel_rfl) (by rw [hcc.1, hcc.2.2, Nat.add_comm 1]))
    have r1 := q1.1
    have r2 := q1.2.1
    have r3 := q1.2.2.1
    have r4 := q1.2.2.2.1
    have r5 := q1.2.2.2.2
    clear hc4 q1 t1 s2 e12 hv c8
    generalize n4 = n at *
    generalize v4 = v at *
    generalize dg4 = dg at *
    have hv : v < 10000 := Nat.lt_of_lt_of_le r3 (Nat.pow_le_pow_right (by omega) (by omega : n ≤ 4))
    have hc2 : ∃ n2 v2 dg2, (2 ≤ n ∧ n2 = n - 2 ∧ v2 = v / 100 ∧ dg2 = sm2 (v % 100) ++ dg) ∨ (n < 2 ∧ n2 = n ∧ v2 = v ∧ dg2 = dg) := by
      by_cases h : 2 ≤ n
      · exact ⟨_, _, _, .inl ⟨h, rfl, rfl, rfl⟩⟩
      · exact ⟨_, _, _, .inr ⟨by omega, rfl, rfl, rfl⟩⟩
    obtain ⟨n2, v2, dg2, hc2⟩ := hc2
    have q2 : n2 < 2 ∧ v2 < 10 ^ n2 ∧ dg2.length = nd - n2 ∧ padL nd u = padL n2 v2 ++ dg2 := by
      rcases hc2 with ⟨a1, rfl, rfl, rfl⟩ | ⟨a1, rfl, rfl, rfl⟩
      · refine ⟨by omega, ?_, by simp [sm2]; omega, ?_⟩
        · rw [Nat.div_lt_iff_lt_mul (by omega), show (100 : Nat) = 10 ^ 2 from rfl, ← Nat.pow_add, show n - 2 + 2 = n by omega]
          exact r3
        · rw [r5]
          conv => lhs; rw [show n = (n - 2) + 2 by omega, padL_add, pad2]
          simp [List.append_assoc]
      · exact ⟨a1, r3, r4, r5⟩
    have t1 : (hd.take (1 + n)).length = 1 + n := by rw [List.length_take]; omega
    refine VCode.upto (fr [(0, .hs 0 0 1 nd 1), (4, .int .i64 n2), (12, .int .u32 v2)]) [.cells 0 (celF (hd.take (1 + n2)) dg2 rest)] ?_ ?_
    · repeat first | refine opsStep ?_ | refine codeStep ?_ | refine drawStep ?_
      refine decB_dec (fun c2 => ?_) (fun c2 => ?_)
      · have c2 : (n : Int) ≥ 2 := c2
        have hcc : 2 ≤ n ∧ n2 = n - 2 ∧ v2 = v / 100 ∧ dg2 = sm2 (v % 100) ++ dg := by
          rcases hc2 with h | h
          · exact h
          · omega
        have zv : IntKind.wrap .u32 ((v : Int).tdiv 100) = ((v / 100 : Nat) : Int) := by rw [show (100 : Int) = ((100 : Nat) : Int) from rfl, tdN, w32 (by omega)]
        have g0 : IntKind.wrap .u32 ((v : Int).tmod 100 * 2) = ((2 * (v % 100) : Nat) : Int) := by rw [show (100 : Int) = ((100 : Nat) : Int) from rfl, tmN, m2, w32 (by omega)]
        repeat first | refine opsStep ?_ | refine codeStep ?_ | refine drawStep ?_
        refine SW.drawn rfl (by kernel_rfl) ?_
        repeat first | refine opsStep ?_ | refine codeStep ?_ | refine drawStep ?_
        refine guardE_of (by show (0 : Int) ≤ IntKind.wrap .u32 ((IntKind.wrap .u32 ((v : Int).tmod 100 * 2)) + 1); rw [g0, inc32 (by omega)]; omega) ?_
        refine optE_of (c := UInt8.ofNat (48 + (v % 100) % 10)) (Eq.trans (b := smB[(IntKind.wrap .u32 ((IntKind.wrap .u32 ((v : Int).tmod 100 * 2)) + 1)).toNat]?) (by kernel_rfl) (by rw [g0, inc32 (by omega), Int.toNat_natCast]; exact (smB_at (by omega)).2)) ?_
        repeat first | refine opsStep ?_ | refine codeStep ?_ | refine drawStep ?_
        refine guardE_of (by show (0 : Int) ≤ (IntKind.wrap .u32 ((v : Int).tmod 100 * 2)); rw [g0]; omega) ?_
        refine optE_of (c := UInt8.ofNat (48 + (v % 100) / 10)) (Eq.trans (b := smB[((IntKind.wrap .u32 ((v : Int).tmod 100 * 2))).toNat]?) (by kernel_rfl) (by rw [g0, Int.toNat_natCast]; exact (smB_at (by omega)).1)) ?_
        repeat first | refine opsStep ?_ | refine codeStep ?_ | refine drawStep ?_
        refine guardE_of (by show (0 : Int) ≤ IntKind.wrap .i64 ((n : Int) - ((1 : Nat) : Int)) ∧ IntKind.wrap .i64 ((n : Int) - ((1 : Nat) : Int)) < (nd : Int); rw [subN (by omega) (by omega)]; omega) ?_
        repeat first | refine opsStep ?_ | refine codeStep ?_ | refine drawStep ?_
        refine guardE_of ⟨rfl, by decide, by show 1 + (IntKind.wrap .i64 ((n : Int) - ((1 : Nat) : Int))).toNat * 1 + 1 ≤ (celF (hd.take (1 + n)) dg rest).length; rw [subN (by omega) (by omega), Int.toNat_natCast, celF_len, t1]; omega⟩ ?_
        repeat first | refine opsStep ?_ | refine codeStep ?_ | refine drawStep ?_
        refine guardE_of (by show (0 : Int) ≤ IntKind.wrap .i64 ((n : Int) - ((2 : Nat) : Int)) ∧ IntKind.wrap .i64 ((n : Int) - ((2 : Nat) : Int)) < (nd : Int); rw [subN (by omega) (by omega)]; omega) ?_
        repeat first | refine opsStep ?_ | refine codeStep ?_ | refine drawStep ?_
        refine guardE_of ⟨rfl, by decide, by show 1 + (IntKind.wrap .i64 ((n : Int) - ((2 : Nat) : Int))).toNat * 1 + 1 ≤ (over (celF (hd.take (1 + n)) dg rest) (1 + (IntKind.wrap .i64 ((n : Int) - ((1 : Nat) : Int))).toNat * 1) [.int .u8 (UInt8.ofNat (48 + (v % 100) % 10)).toNat]).length; rw [subN (by omega) (by omega), subN (by omega) (by omega), Int.toNat_natCast, Int.toNat_natCast, over_lenI (by rw [celF_len, t1]; omega), celF_len, t1]; omega⟩ ?_
        repeat first | refine opsStep ?_ | refine codeStep ?_ | refine drawStep ?_
        refine ⟨by kernel_rfl, ?_⟩
        refine VCode.ent (Ent.fr' (l := [(0, .hs 0 0 1 nd 1), (4, .int .i64 n), (12, .int .u32 (v / 100 : Nat))]) (H' := [.cells 0 (celF (hd.take (1 + (n - 2))) (sm2 ((v % 100)) ++ dg) rest)]) ⟨(by kernel_rfl), (by kernel_rfl), congrArg (AV.int .u32) zv, trivial⟩ (Eq.trans (b := [.cells 0 (over (over (celF (hd.take (1 + n)) dg rest) (1 + (IntKind.wrap .i64 ((n : Int) - ((1 : Nat) : Int))).toNat * 1) [.int .u8 (UInt8.ofNat (48 + (v % 100) % 10)).toNat]) (1 + (IntKind.wrap .i64 ((n : Int) - ((2 : Nat) : Int))).toNat * 1) [.int .u8 (UInt8.ofNat (48 + (v % 100) / 10)).toNat])]) (by kernel_rfl) (by
          rw [subN (by omega) (by omega), subN (by omega) (by omega), Int.toNat_natCast, Int.toNat_natCast, show 1 + (n - 1) * 1 = (1 + (n - 2)) + 1 by omega, show 1 + (n - 2) * 1 = 1 + (n - 2) by omega, put2 (by rw [t1]; omega), List.take_take, Nat.min_eq_left (by omega)]))) ?_
        repeat first | refine opsStep ?_ | refine codeStep ?_ | refine drawStep ?_
        refine Ent.fr' ⟨(by kernel_rfl), Eq.trans (b := .int .i64 (IntKind.wrap .i64 ((n : Int) - ((2 : Nat) : Int)))) (by kernel_rfl) (by rw [subN (by omega) (by omega), hcc.2.1]), Eq.trans (b := .int .u32 (v / 100 : Nat)) (by kernel_rfl) (by rw [hcc.2.2.1]), trivial⟩ (Eq.trans (b := [.cells 0 (celF (hd.take (1 + (n - 2))) (sm2 (v % 100) ++ dg) rest)]) (by kernel_rfl) (by rw [hcc.2.1, hcc.2.2.2]))
      · have c2 : ¬ (n : Int) ≥ 2 := c2
        have hcc : n2 = n ∧ v2 = v ∧ dg2 = dg := by
          rcases hc2 with h | h
          · omega
          · exact h.2
        repeat first | refine opsStep ?_ | refine codeStep ?_ | refine drawStep ?_
        refine Ent.fr' ⟨(by kernel_rfl), Eq.trans (b := .int .i64 n) (by kernel_rfl) (by rw [hcc.1]), Eq.trans (b := .int .u32 v) (by kernel_rfl) (by rw [hcc.2.1]), trivial⟩ (Eq.trans (b := [.cells 0 (celF (hd.take (1 + n)) dg rest)]) (by kernel_rfl) (by rw [hcc.1, hcc.2.2]))
    have p1 := q2.1
    have p2 := q2.2.1
    have p4 := q2.2.2.2
    clear q2 hc2
    cases n2 with
    | zero =>
      rw [p4]
      repeat first | refine opsStep ?_ | refine codeStep ?_ | refine drawStep ?_
      exact finR (l := []) (v := .tup []) (H₁ := [.cells 0 (celF (hd.take 1) dg2 rest)]) trivial (by kernel_rfl) (Ent.refl _ _ _) (by kernel_rfl) ⟨rfl, rfl⟩
    | succ j =>
      have hj : j = 0 := by omega
      subst hj
      have hv2 : v2 < 10 := p2
      have hh : hd.take (1 + 1) = [hd[0]'(by omega), hd[1]'(by omega)] := by
        rw [List.take_succ_eq_append_getElem (by omega), List.take_succ_eq_append_getElem (by omega)]; simp
      have hh1 : hd.take 1 = [hd[0]'(by omega)] := by rw [List.take_succ_eq_append_getElem (by omega)]; simp
      have hb : IntKind.wrap .u8 (IntKind.wrap .u32 (48 + (v2 : Int))) = (((UInt8.ofNat (48 + v2)).toNat : Nat) : Int) := by
        rw [u8_dig (by omega), IntWalk.u32_in _ (by omega), IntWalk.u8_in _ (by omega)]; simp
      rw [p4, hh1]
      have hp1 : padL (0 + 1) v2 ++ dg2 = UInt8.ofNat (48 + v2) :: dg2 := by show ([] ++ [UInt8.ofNat (48 + v2 % 10)]) ++ dg2 = _; rw [Nat.mod_eq_of_lt hv2]; rfl
      rw [hp1]
      refine VCode.ent (Ent.fr' (l := [(0, .hs 0 0 1 nd 1), (4, .int .i64 1), (12, .int .u32 v2)]) (H' := [.cells 0 (celF [hd[0]'(by omega), hd[1]'(by omega)] dg2 rest)]) ⟨(by kernel_rfl), (by kernel_rfl), (by kernel_rfl), trivial⟩ (by show [Blk.cells 0 (celF (hd.take (1 + 1)) dg2 rest)] = _; rw [hh])) ?_
      repeat first | refine opsStep ?_ | refine codeStep ?_ | refine drawStep ?_
      refine guardE_of ⟨by decide, by show (0 : Int) < (nd : Int); omega⟩ ?_
      repeat first | refine opsStep ?_ | refine codeStep ?_ | refine drawStep ?_
      exact finR (l := []) (v := .tup []) (H₁ := [.cells 0 (celF [hd[0]'(by omega)] (UInt8.ofNat (48 + v2) :: dg2) rest)]) trivial (Eq.trans (b := [.cells 0 (over (celF [hd[0]'(by omega), hd[1]'(by omega)] dg2 rest) (1 + 0 * 1) [.int .u8 (IntKind.wrap .u8 (IntKind.wrap .u32 (48 + (v2 : Int))))])]) (by kernel_rfl) (by rw [hb]; exact congrArg (fun l => [Blk.cells 0 l]) put1)) (Ent.refl _ _ _) (by kernel_rfl) ⟨rfl, rfl⟩

end Tab

/- Numbers as texts. -/
namespace Tab
open Go Go.Proofs
set_option maxRecDepth 10000
set_option linter.unusedVariables false
set_option linter.unusedSimpArgs false
set_option linter.unusedSectionVars false
set_option maxHeartbeats 1000000

theorem strOf_byt : ∀ l : List UInt8, strOf (bytA l) = some l
  | [] => rfl
  | c :: l => by
    show strOf (.int .u8 c.toNat :: bytA l) = _
    rw [strOf, strOf_byt l]
    simp
def z24 : List AV := List.replicate 24 (.int .u8 0)
theorem z24_split (n : Nat) : z24 = z24.take n ++ z24.drop n := (List.take_append_drop n z24).symm
theorem fmt_Int' (n : Nat) (h : n ≤ 9223372036854775807) : Pure Tryd.prog 79 [.int .i64 n, .int .i64 10] (.str (dgL n)) := by
  refine Pure.of_sw 54 Tryd.func79 rfl Tryd.ntmps79 (by kernel_rfl) (Nat.le_of_ble_eq_true (by kernel_rfl)) (by simp [closeds, AV.closed, aSs_closed, aIs_closed, aBs_closed, aRs_closed, aDen_closed]) (by simp [AV.closed, closeds, aSs_closed, aIs_closed, aBs_closed, aRs_closed, aDen_closed]) ?_; refine SW.of_vc ?_
  repeat first | refine opsStep ?_ | refine codeStep ?_ | refine drawStep ?_
  refine decB_dec (fun c => ?_) (fun c => ?_)
  · have c : (n : Int) < 100 := c
    repeat first | refine opsStep ?_ | refine codeStep ?_ | refine drawStep ?_
    refine callP (fmt_small n (by omega)) ?_
    repeat first | refine opsStep ?_ | refine codeStep ?_ | refine drawStep ?_
    exact finV (v' := .str (dgL n)) (by kernel_rfl) rfl
  · have c : ¬ (n : Int) < 100 := c
    have e64 : IntKind.wrap .u64 ((n : Nat) : Int) = (n : Int) := w64 (by omega)
    obtain ⟨d1, d2, d3⟩ := ndS_ok (n := n) (by omega) (by omega)
    have hnd20 : ndS n ≤ 20 := by
      obtain ⟨a1, a2⟩ := lenN_le64 (n := n) (by omega) (by omega)
      obtain ⟨_, _, k3⟩ := l10_ok _ a2 a1
      rw [ndS]; split <;> omega
    have hdg : dgL n = padL (ndS n) n := dgL_nd (by omega) (by omega)
    have hnd := fmt_nd n (by omega) (by omega)
    rw [← e64] at hnd
    have ew : IntKind.wrap .i64 (1 + ((ndS n : Nat) : Int)) = ((ndS n + 1 : Nat) : Int) := by rw [IntWalk.i64_in _ (by omega)]; omega
    generalize hD : ndS n = D at *
    rw [hdg]
    have hz : z24.length = 24 := by simp [z24]
    have hcall := fmt10 n D (z24.take (D + 1)) (z24.drop (D + 1)) d1 hnd20 d3 (by omega) (by rw [List.length_take]; omega)
    rw [← z24_split, List.take_take, Nat.min_eq_left (by omega)] at hcall
    have hcall' : ACall Tryd.prog 107 [.hs 0 0 (0 + (1 : Int).toNat * 1) ((IntKind.wrap .i64 (1 + ((D : Nat) : Int))).toNat - (1 : Int).toNat) 1, .int .u64 (IntKind.wrap .u64 ((n : Nat) : Int))] [.cells 0 z24] fun o H' => o = .ret (.tup []) ∧ H' = [.cells 0 (celF (z24.take 1) (padL D n) (z24.drop (D + 1)))] := by
      rw [ew, e64, Int.toNat_natCast]
      exact hcall
    have hcl : (celF (z24.take 1) (padL D n) (z24.drop (D + 1))).length = 24 := by rw [celF_len, padL_len, List.length_take, List.length_drop]; omega
    have hcut : ((celF (z24.take 1) (padL D n) (z24.drop (D + 1))).drop 1).take (D * 1) = bytA (padL D n) := by
      rw [celF, List.append_assoc, List.drop_left' (by rw [List.length_take]; omega), List.take_left' (by rw [bytA, List.length_map, padL_len]; omega)]
    repeat first | refine opsStep ?_ | refine codeStep ?_ | refine drawStep ?_
    refine callP (args := [.int .u64 (IntKind.wrap .u64 ((n : Nat) : Int))]) hnd ?_
    repeat first | refine opsStep ?_ | refine codeStep ?_ | refine drawStep ?_
    refine guardE_of ⟨by show (0 : Int) ≤ 1 ∧ (1 : Int) ≤ IntKind.wrap .i64 (1 + ((D : Nat) : Int)) ∧ IntKind.wrap .i64 (1 + ((D : Nat) : Int)) ≤ (24 : Nat); rw [ew]; omega, .inr (by show (1 : Int) < IntKind.wrap .i64 (1 + ((D : Nat) : Int)); rw [ew]; omega)⟩ ?_
    repeat first | refine opsStep ?_ | refine codeStep ?_ | refine drawStep ?_
    refine ⟨_, hcall', ?_⟩
    rintro _ _ ⟨rfl, rfl⟩
    repeat first | refine opsStep ?_ | refine codeStep ?_ | refine drawStep ?_
    refine guardE_of ⟨rfl, by rw [hcl]; decide, by show 0 + 24 * 1 ≤ (celF _ _ _).length; rw [hcl]; omega⟩ ?_
    refine guardE_of ⟨by show (0 : Int) ≤ 1 ∧ (1 : Int) ≤ IntKind.wrap .i64 (1 + ((D : Nat) : Int)) ∧ IntKind.wrap .i64 (1 + ((D : Nat) : Int)) ≤ (24 : Nat); rw [ew]; omega, .inr (by show (1 : Int) < IntKind.wrap .i64 (1 + ((D : Nat) : Int)); rw [ew]; omega)⟩ ?_
    repeat first | refine opsStep ?_ | refine codeStep ?_ | refine drawStep ?_
    refine guardE_of ⟨rfl, by show 0 + (1 : Int).toNat * 1 + ((IntKind.wrap .i64 (1 + ((D : Nat) : Int))).toNat - (1 : Int).toNat) * 1 ≤ (celF _ _ _).length; rw [hcl, ew, Int.toNat_natCast]; show 0 + 1 * 1 + (D + 1 - 1) * 1 ≤ 24; omega⟩ ?_
    refine optE_of (c := padL D n) (by
      show strOf (((celF (z24.take 1) (padL D n) (z24.drop (D + 1))).drop (0 + (1 : Int).toNat * 1)).take (((IntKind.wrap .i64 (1 + ((D : Nat) : Int))).toNat - (1 : Int).toNat) * 1)) = _
      rw [ew, Int.toNat_natCast]
      show strOf (((celF (z24.take 1) (padL D n) (z24.drop (D + 1))).drop 1).take ((D + 1 - 1) * 1)) = _
      rw [Nat.add_sub_cancel, hcut, strOf_byt]) ?_
    repeat first | refine opsStep ?_ | refine codeStep ?_ | refine drawStep ?_
    exact finV (v' := .str (padL D n)) (by kernel_rfl) rfl
theorem fmt_Int (n : Nat) (h : n ≤ 9223372036854775807) : Pure Tryd.prog 52 [.int .i64 n, .int .i64 10] (.str (dgL n)) := by
  refine Pure.of_sw 8 Tryd.func52 rfl Tryd.ntmps52 (by kernel_rfl) (Nat.le_of_ble_eq_true (by kernel_rfl)) (by simp [closeds, AV.closed, aSs_closed, aIs_closed, aBs_closed, aRs_closed, aDen_closed]) (by simp [AV.closed, closeds, aSs_closed, aIs_closed, aBs_closed, aRs_closed, aDen_closed]) ?_; refine SW.of_vc ?_
  repeat first | refine opsStep ?_ | refine codeStep ?_ | refine drawStep ?_
  refine callP (fmt_Int' n h) ?_
  repeat first | refine opsStep ?_ | refine codeStep ?_ | refine drawStep ?_
  exact finV (v' := .str (dgL n)) (by kernel_rfl) rfl

end Tab

/- Trees of terms and formulas: plain. -/
namespace Tab
open Go Go.Proofs
set_option maxRecDepth 10000
set_option linter.unusedVariables false
set_option linter.unusedSimpArgs false
set_option linter.unusedSectionVars false

inductive TT where
  | mk (op num : Int) (name : List UInt8) (k : SK) (args : List TT)
inductive FT where
  | mk (op : Int) (name : List UInt8) (md : Int) (tk : SK) (terms : List TT) (ak : SK) (args : List FT)
def TT.op : TT → Int | .mk op _ _ _ _ => op
def TT.num : TT → Int | .mk _ num _ _ _ => num
def TT.name : TT → List UInt8 | .mk _ _ name _ _ => name
def TT.k : TT → SK | .mk _ _ _ k _ => k
def TT.args : TT → List TT | .mk _ _ _ _ args => args
def FT.op : FT → Int | .mk op _ _ _ _ _ _ => op
def FT.name : FT → List UInt8 | .mk _ name _ _ _ _ _ => name
def FT.md : FT → Int | .mk _ _ md _ _ _ _ => md
def FT.tk : FT → SK | .mk _ _ _ tk _ _ _ => tk
def FT.terms : FT → List TT | .mk _ _ _ _ terms _ _ => terms
def FT.ak : FT → SK | .mk _ _ _ _ _ ak _ => ak
def FT.args : FT → List FT | .mk _ _ _ _ _ _ args => args

/-! ### As cells -/
mutual
def TT.cells : TT → List AV
  | .mk op num name k args => [.int .i64 op, .int .i64 num, .str name, .sl k args.length (ttsC args)]
def ttsC : List TT → List AV
  | [] => []
  | t :: l => t.cells ++ ttsC l
end
theorem ttsC_flat : ∀ l : List TT, ttsC l = l.flatMap TT.cells
  | [] => rfl
  | t :: l => by rw [ttsC, ttsC_flat l, List.flatMap_cons]
mutual
def FT.cells : FT → List AV
  | .mk op name md tk terms ak args => [.int .i64 op, .str name, .int .i64 md, .sl tk terms.length (ttsC terms), .sl ak args.length (ftsC args)]
def ftsC : List FT → List AV
  | [] => []
  | t :: l => t.cells ++ ftsC l
end
theorem ftsC_flat : ∀ l : List FT, ftsC l = l.flatMap FT.cells
  | [] => rfl
  | t :: l => by rw [ftsC, ftsC_flat l, List.flatMap_cons]
theorem TT.cells_eq (t : TT) : t.cells = [.int .i64 t.op, .int .i64 t.num, .str t.name, .sl t.k t.args.length (ttsC t.args)] := by cases t; rw [TT.cells]; rfl
theorem FT.cells_eq (f : FT) : f.cells = [.int .i64 f.op, .str f.name, .int .i64 f.md, .sl f.tk f.terms.length (ttsC f.terms), .sl f.ak f.args.length (ftsC f.args)] := by cases f; rw [FT.cells]; rfl
theorem TT.cells_len (t : TT) : t.cells.length = 4 := by rw [TT.cells_eq]; rfl
theorem FT.cells_len (t : FT) : t.cells.length = 5 := by rw [FT.cells_eq]; rfl
mutual
theorem TT.cells_closed : ∀ t : TT, closeds t.cells
  | .mk op num name k args => by rw [TT.cells]; simp only [closeds, AV.closed, true_and, and_true]; exact ttsC_closed args
theorem ttsC_closed : ∀ l : List TT, closeds (ttsC l)
  | [] => by rw [ttsC]; simp only [closeds]
  | t :: l => by
    rw [ttsC, closeds_iff]
    intro a ha
    rcases List.mem_append.1 ha with h | h
    · exact closeds_iff.1 (TT.cells_closed t) a h
    · exact closeds_iff.1 (ttsC_closed l) a h
end
mutual
theorem FT.cells_closed : ∀ t : FT, closeds t.cells
  | .mk op name md tk terms ak args => by rw [FT.cells]; simp only [closeds, AV.closed, true_and, and_true]; exact ⟨ttsC_closed terms, ftsC_closed args⟩
theorem ftsC_closed : ∀ l : List FT, closeds (ftsC l)
  | [] => by rw [ftsC]; simp only [closeds]
  | t :: l => by
    rw [ftsC, closeds_iff]
    intro a ha
    rcases List.mem_append.1 ha with h | h
    · exact closeds_iff.1 (FT.cells_closed t) a h
    · exact closeds_iff.1 (ftsC_closed l) a h
end
theorem ttsC_len : ∀ l : List TT, (ttsC l).length = l.length * 4
  | [] => by rw [ttsC]; rfl
  | t :: l => by rw [ttsC, List.length_append, TT.cells_len, ttsC_len l, List.length_cons]; omega
theorem ftsC_len : ∀ l : List FT, (ftsC l).length = l.length * 5
  | [] => by rw [ftsC]; rfl
  | t :: l => by rw [ftsC, List.length_append, FT.cells_len, ftsC_len l, List.length_cons]; omega
theorem ttsC_at : ∀ {l : List TT} {i : Nat} (h : i < l.length), ((ttsC l).drop (i * 4)).take 4 = (l[i]'h).cells
  | t :: l, 0, h => by rw [ttsC, Nat.zero_mul, List.drop_zero, List.take_append_of_le_length (by rw [TT.cells_len]; omega), List.take_of_length_le (by rw [TT.cells_len]; omega)]; rfl
  | t :: l, i + 1, h => by
    rw [ttsC, show (i + 1) * 4 = 4 + i * 4 by omega, ← List.drop_drop, List.drop_left' (TT.cells_len t)]
    exact ttsC_at (by simpa using h)
theorem ftsC_at : ∀ {l : List FT} {i : Nat} (h : i < l.length), ((ftsC l).drop (i * 5)).take 5 = (l[i]'h).cells
  | t :: l, 0, h => by rw [ftsC, Nat.zero_mul, List.drop_zero, List.take_append_of_le_length (by rw [FT.cells_len]; omega), List.take_of_length_le (by rw [FT.cells_len]; omega)]; rfl
  | t :: l, i + 1, h => by
    rw [ftsC, show (i + 1) * 5 = 5 + i * 5 by omega, ← List.drop_drop, List.drop_left' (FT.cells_len t)]
    exact ftsC_at (by simpa using h)

/-! ### What can be handed in -/
def okSz {X : Type} (b : Nat) (k : SK) (l : List X) : Prop := ((k = .nil ∧ l = []) ∨ k = .nn) ∧ l.length * b ≤ 2 ^ 47
def okI6 (n : Int) : Prop := -9223372036854775808 ≤ n ∧ n ≤ 9223372036854775807
mutual
def TT.ok : TT → Prop
  | .mk op num name k args => okI6 op ∧ okI6 num ∧ name.length ≤ 2 ^ 47 ∧ args.length * 48 ≤ 2 ^ 47 ∧ ttsOk args
def ttsOk : List TT → Prop
  | [] => True
  | t :: l => t.ok ∧ ttsOk l
end
theorem ttsOk_iff : ∀ {l : List TT}, ttsOk l ↔ ∀ t ∈ l, t.ok
  | [] => by rw [ttsOk]; simp
  | t :: l => by rw [ttsOk, ttsOk_iff]; simp
mutual
def FT.ok : FT → Prop
  | .mk op name md tk terms ak args => okI6 op ∧ name.length ≤ 2 ^ 47 ∧ okI6 md ∧ terms.length * 48 ≤ 2 ^ 47 ∧ ttsOk terms ∧ args.length * 48 ≤ 2 ^ 47 ∧ ftsOk args
def ftsOk : List FT → Prop
  | [] => True
  | t :: l => t.ok ∧ ftsOk l
end
theorem ftsOk_iff : ∀ {l : List FT}, ftsOk l ↔ ∀ t ∈ l, t.ok
  | [] => by rw [ftsOk]; simp
  | t :: l => by rw [ftsOk, ftsOk_iff]; simp

/-! ### The walk that measures -/
structure Ms where
  size : Nat
  depth : Nat
  err : Int
def nodeM (m : Ms) (d : Nat) (good : Bool) : Ms := ⟨m.size + 1, max m.depth d, if 500 < m.size + 1 then 73 else if 40 < d then 72 else if good = true then m.err else 3⟩
def goodT (t : TT) : Bool :=
  if t.op = 0 then decide (0 ≤ t.num) && decide (t.name = []) && decide (t.args.length = 0)
  else if t.op = 1 then decide (t.num = 0) && nameS t.name && decide (t.args.length = 0)
  else if t.op = 2 then decide (t.num = 0) && decide (t.name = []) && decide (t.args.length = 1)
  else if t.op = 3 ∨ t.op = 4 ∨ t.op = 5 then decide (t.num = 0) && decide (t.name = []) && decide (t.args.length = 2)
  else false
def goodF (f : FT) : Bool :=
  if f.op = 0 ∨ f.op = 1 then decide (f.name = []) && decide (f.md = 0) && decide (f.terms.length = 0) && decide (f.args.length = 0)
  else if f.op = 2 then decide (f.name = []) && decide (f.md = 0) && decide (f.terms.length = 0) && decide (f.args.length = 1)
  else if 3 ≤ f.op ∧ f.op ≤ 6 then decide (f.name = []) && decide (f.md = 0) && decide (f.terms.length = 0) && decide (f.args.length = 2)
  else if f.op = 7 ∨ f.op = 8 then nameS f.name && decide (f.md = 0) && decide (f.terms.length = 0) && decide (f.args.length = 1)
  else if 9 ≤ f.op ∧ f.op ≤ 14 then decide (f.name = []) && decide (f.md = 0) && decide (f.terms.length = 2) && decide (f.args.length = 0)
  else if f.op = 15 then decide (f.name = []) && decide (1 ≤ f.md) && decide (f.terms.length = 2) && decide (f.args.length = 0)
  else false
mutual
def TT.walk : TT → Nat → Ms → Ms
  | .mk op num name k args, d, m => if (nodeM m d (goodT (.mk op num name k args))).err ≠ 0 then nodeM m d (goodT (.mk op num name k args)) else ttsWalk args (d + 1) (nodeM m d (goodT (.mk op num name k args)))
def ttsWalk : List TT → Nat → Ms → Ms
  | [], _, m => m
  | t :: l, d, m => if (t.walk d m).err ≠ 0 then t.walk d m else ttsWalk l d (t.walk d m)
end
mutual
def FT.walk : FT → Nat → Ms → Ms
  | .mk op name md tk terms ak args, d, m =>
    if (nodeM m d (goodF (.mk op name md tk terms ak args))).err ≠ 0 then nodeM m d (goodF (.mk op name md tk terms ak args))
    else if (ttsWalk terms (d + 1) (nodeM m d (goodF (.mk op name md tk terms ak args)))).err ≠ 0 then ttsWalk terms (d + 1) (nodeM m d (goodF (.mk op name md tk terms ak args)))
    else ftsWalk args (d + 1) (ttsWalk terms (d + 1) (nodeM m d (goodF (.mk op name md tk terms ak args))))
def ftsWalk : List FT → Nat → Ms → Ms
  | [], _, m => m
  | t :: l, d, m => if (t.walk d m).err ≠ 0 then t.walk d m else ftsWalk l d (t.walk d m)
end
theorem TT.walk_eq (t : TT) (d : Nat) (m : Ms) : t.walk d m = if (nodeM m d (goodT t)).err ≠ 0 then nodeM m d (goodT t) else ttsWalk t.args (d + 1) (nodeM m d (goodT t)) := by cases t; rw [TT.walk]; rfl
theorem FT.walk_eq (f : FT) (d : Nat) (m : Ms) : f.walk d m = if (nodeM m d (goodF f)).err ≠ 0 then nodeM m d (goodF f)
    else if (ttsWalk f.terms (d + 1) (nodeM m d (goodF f))).err ≠ 0 then ttsWalk f.terms (d + 1) (nodeM m d (goodF f)) else ftsWalk f.args (d + 1) (ttsWalk f.terms (d + 1) (nodeM m d (goodF f))) := by cases f; rw [FT.walk]; rfl
def ms0 : Ms := ⟨0, 0, 0⟩
def chkT (t : TT) : Int := (t.walk 1 ms0).err
def chkF (f : FT) : Int := (f.walk 1 ms0).err

end Tab
