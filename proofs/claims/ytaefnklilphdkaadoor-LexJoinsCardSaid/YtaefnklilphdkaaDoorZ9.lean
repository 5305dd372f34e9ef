/- Lemmas for this claim: part 9. No condition. -/
import Derived.Test.YtaefnklilphdkaaDoorZ8
import Derived.Test.YtaefnklilphdkaaDoorProg
set_option linter.unusedVariables false
set_option linter.unusedSimpArgs false
set_option linter.unusedSectionVars false
/- What is asked of package-level variables: nothing; or, where texts are decoded, the tables that decoding reads. -/
namespace Tab
open Go

def spcV (c : Nat) : Int := if c = 9 ∨ c = 10 ∨ c = 11 ∨ c = 12 ∨ c = 13 ∨ c = 32 then 1 else 0
def fstV (c : Nat) : Int := if c < 128 then 240 else if c < 194 then 241 else if c < 224 then 2 else if c = 224 then 19 else if c = 237 then 35 else if c < 240 then 3 else if c = 240 then 52 else if c < 244 then 4 else if c = 244 then 68 else 241
def spcZ : List Int := (List.range 256).map spcV
def fstZ : List Int := (List.range 256).map fstV
def accZ : List Int := [128, 191, 160, 191, 128, 159, 144, 191, 128, 143] ++ List.replicate 22 0
def bytZ (l : List Int) : List AV := l.map (.int .u8)
abbrev junkGlobs : Globs := ⟨fun _ => .junk, fun _ _ _ _ _ _ _ => by simp only [VRel]⟩
theorem bytZ_closed (l : List Int) : closeds (bytZ l) := (@closeds_iff junkGlobs _).2 fun a h => by
  obtain ⟨z, _, rfl⟩ := List.mem_map.1 h
  simp only [AV.closed]
def gvV : Nat → AV
  | 0 => .tref (bytZ spcZ)
  | 1 => .tref (bytZ fstZ)
  | 2 => .tref (bytZ accZ)
  | _ => .junk
theorem gvV_closed : ∀ g, (gvV g).closed
  | 0 => by show (AV.tref _).closed; simp only [AV.closed]; exact bytZ_closed _
  | 1 => by show (AV.tref _).closed; simp only [AV.closed]; exact bytZ_closed _
  | 2 => by show (AV.tref _).closed; simp only [AV.closed]; exact bytZ_closed _
  | _ + 3 => by show AV.junk.closed; simp only [AV.closed]
instance tabGlobs : Globs := ⟨gvV, fun g _ _ _ _ v h => @Tab.AV.closed_rel junkGlobs _ _ _ _ _ v (gvV_closed g) h⟩
theorem tref_of {W : World} {g : Nat} {l : List Int} (hl : l ≠ []) (h : ∀ (i : Nat) (z : Int), l[i]? = some z → W.cell? ⟨g, i, none⟩ = some (.int .u8 z)) : VRel m₀ (fun cb => cb < W.heap.size) W (.tref (bytZ l)) (.pointer (some ⟨g, 0, none⟩)) := by
  have hlt : g < W.heap.size := by
    cases l with
    | nil => exact absurd rfl hl
    | cons z l =>
      have := h 0 z rfl
      by_cases hg : g < W.heap.size
      · exact hg
      · have e : W.heap[g]? = none := by simp; omega
        simp [World.cell?, e] at this
  simp only [VRel]
  refine ⟨g, 0, rfl, CsRel_iff.2 fun i a ha => ⟨hlt, ?_⟩⟩
  rw [bytZ, List.getElem?_map] at ha
  obtain ⟨z, hz, rfl⟩ := Option.map_eq_some_iff.1 ha
  refine ⟨.int .u8 z, by rw [Nat.zero_add]; exact h i z hz, rfl, by simp only [VRel]⟩

end Tab

/- Names: which characters they are made of. -/
namespace Tab
open Go Go.Proofs
set_option maxRecDepth 10000
set_option linter.unusedVariables false
set_option linter.unusedSimpArgs false
set_option linter.unusedSectionVars false

def startR (r : Int) : Bool := (decide (65 ≤ r) && decide (r ≤ 90)) || (decide (97 ≤ r) && decide (r ≤ 122)) || decide (r = 95) || (decide (913 ≤ r) && decide (r ≤ 929)) || (decide (931 ≤ r) && decide (r ≤ 937)) || (decide (945 ≤ r) && decide (r ≤ 969))
def restR (r : Int) : Bool := startR r || (decide (48 ≤ r) && decide (r ≤ 57)) || decide (r = 8242) || (decide (8320 ≤ r) && decide (r ≤ 8329))
def resWords : List (List UInt8) := [[97, 110, 100], [111, 114], [110, 111, 116], [101, 120], [97, 108, 108], [109, 111, 100], [116, 114, 117, 101], [102, 97, 108, 115, 101]]
def resS (s : List UInt8) : Bool := decide (s ∈ resWords)

theorem glyph_Start (r : Int) : Pure Tryd.prog 18 [.int .i32 r] (.bool (startR r)) := by
  refine Pure.of_sw 37 Tryd.func18 rfl Tryd.ntmps18 (by kernel_rfl) (Nat.le_of_ble_eq_true (by kernel_rfl)) (by simp [closeds, AV.closed, aSs_closed, aIs_closed, aBs_closed, aRs_closed, aDen_closed]) (by simp [AV.closed, closeds, aSs_closed, aIs_closed, aBs_closed, aRs_closed, aDen_closed]) ?_; refine SW.of_vc ?_
  repeat' first | refine opsStep ?_ | refine codeStep ?_ | refine decB_split (fun h => ?_) (fun h => ?_)
  all_goals exact finB rfl (by simp at *; simp [startR]; omega)

theorem glyph_Rest (r : Int) : Pure Tryd.prog 19 [.int .i32 r] (.bool (restR r)) := by
  refine Pure.of_sw 25 Tryd.func19 rfl Tryd.ntmps19 (by kernel_rfl) (Nat.le_of_ble_eq_true (by kernel_rfl)) (by simp [closeds, AV.closed, aSs_closed, aIs_closed, aBs_closed, aRs_closed, aDen_closed]) (by simp [AV.closed, closeds, aSs_closed, aIs_closed, aBs_closed, aRs_closed, aDen_closed]) ?_; refine SW.of_vc ?_
  repeat first | refine opsStep ?_ | refine codeStep ?_ | refine drawStep ?_
  refine callP (glyph_Start r) ?_
  repeat first | refine opsStep ?_ | refine codeStep ?_ | refine drawStep ?_
  refine decB_split (fun h => ?_) (fun h => ?_)
  · repeat first | refine opsStep ?_ | refine codeStep ?_ | refine drawStep ?_
    exact finB rfl (by simp [restR, h])
  · repeat' first | refine opsStep ?_ | refine codeStep ?_ | refine decB_split (fun h => ?_) (fun h => ?_)
    all_goals exact finB rfl (by simp at *; simp [restR, *]; try omega)

theorem glyph_Reserved (s : List UInt8) : Pure Tryd.prog 27 [.str s] (.bool (resS s)) := by
  refine Pure.of_sw 13 Tryd.func27 rfl Tryd.ntmps27 (by kernel_rfl) (Nat.le_of_ble_eq_true (by kernel_rfl)) (by simp [closeds, AV.closed, aSs_closed, aIs_closed, aBs_closed, aRs_closed, aDen_closed]) (by simp [AV.closed, closeds, aSs_closed, aIs_closed, aBs_closed, aRs_closed, aDen_closed]) ?_; refine SW.of_vc ?_
  repeat first | refine opsStep ?_ | refine codeStep ?_ | refine drawStep ?_
  repeat' first | refine opsStep ?_ | refine codeStep ?_ | refine decB_split (fun h => ?_) (fun h => ?_)
  all_goals exact finB rfl (by simp_all [resS, resWords])

attribute [irreducible] startR restR resS
end Tab

/- Names as the reference reads them. -/
namespace Tab
open Go Go.Proofs
set_option maxRecDepth 10000
set_option linter.unusedVariables false
set_option linter.unusedSimpArgs false
set_option linter.unusedSectionVars false

def inR (r : Int) : List Int → Bool
  | a :: b :: l => (decide (a ≤ r) && decide (r ≤ b)) || inR r l
  | _ => false

theorem inR_short {r : Int} {l : List Int} (h : l.length ≤ 1) : inR r l = false := by
  match l, h with
  | [], _ => rfl
  | [_], _ => rfl

theorem inR_drop {r : Int} {l : List Int} {i : Nat} (h : i + 1 < l.length) : inR r (l.drop i) = ((decide (l[i] ≤ r) && decide (r ≤ l[i + 1])) || inR r (l.drop (i + 2))) := by
  rw [List.drop_eq_getElem_cons (by omega), List.drop_eq_getElem_cons (by omega)]
  rfl

end Tab

/- Characters: what the model decodes, and what the reference reads. -/
namespace Tab
open Go Go.Proofs
set_option maxRecDepth 10000
set_option linter.unusedVariables false
set_option linter.unusedSimpArgs false
set_option linter.unusedSectionVars false

def bt (s : List UInt8) (i : Nat) : Nat := (s.getD i 0).toNat
def ctb (s : List UInt8) (i : Nat) : Bool := decide (i < s.length) && (bt s i / 64 == 2)
def okc (c : Nat) : Bool := Utf8.valid c

theorem bt_get (s : List UInt8) (i : Nat) : ((ByteArray.mk s.toArray).get! i).toNat = bt s i := by
  simp [ByteArray.get!, bt, List.getD_eq_getElem?_getD]
  rfl

theorem dec_def (s : List UInt8) (p : Nat) : dec s p =
    if bt s p < 0x80 then (bt s p, 1)
    else if (bt s p / 32 == 6 && ctb s (p + 1)) = true then
      let c := (bt s p % 32) * 64 + bt s (p + 1) % 64
      if c ≥ 0x80 then (c, 2) else (65533, 1)
    else if (bt s p / 16 == 14 && ctb s (p + 1) && ctb s (p + 2)) = true then
      let c := (bt s p % 16) * 4096 + (bt s (p + 1) % 64) * 64 + bt s (p + 2) % 64
      if (decide (c ≥ 0x800) && okc c) = true then (c, 3) else (65533, 1)
    else if (bt s p / 8 == 30 && ctb s (p + 1) && ctb s (p + 2) && ctb s (p + 3)) = true then
      let c := (bt s p % 8) * 262144 + (bt s (p + 1) % 64) * 4096 + (bt s (p + 2) % 64) * 64 + bt s (p + 3) % 64
      if (decide (c ≥ 0x10000) && okc c) = true then (c, 4) else (65533, 1)
    else (65533, 1) := by
  have hs : (ByteArray.mk s.toArray).size = s.length := by simp [ByteArray.size]
  simp only [dec, Utf8.decode, bt_get, hs, ctb, okc, Nat.add_zero, Utf8.runeError]
  simp only [decide_eq_true_eq, Bool.and_eq_true, ge_iff_le]

def accR (x0 : Int) (s : List UInt8) (p : Nat) : Nat → Int
  | 0 => x0
  | n + 1 => accR x0 s p n * 64 + bt s (p + n + 1) - 128

theorem bt_lt (s : List UInt8) (i : Nat) : bt s i < 256 := by
  unfold bt; exact UInt8.toNat_lt _
theorem ite_cond {α : Type} {q r : Prop} [Decidable q] [Decidable r] {x y x' : α} (h : q ↔ r) (e : q → x = x') : (if q then x else y) = (if r then x' else y) := by
  by_cases hq : q
  · rw [if_pos hq, if_pos (h.1 hq), e hq]
  · rw [if_neg hq, if_neg (fun k => hq (h.2 k))]

theorem fa1 {Q : Nat → Prop} : (∀ j, j < 2 - 1 → Q j) ↔ Q 0 :=
  ⟨fun h => h 0 (by omega), fun h j hj => by have : j = 0 := by omega
                                             subst this; exact h⟩
theorem fa2 {Q : Nat → Prop} : (∀ j, j < 3 - 1 → Q j) ↔ Q 0 ∧ Q 1 :=
  ⟨fun h => ⟨h 0 (by omega), h 1 (by omega)⟩, fun h j hj => by
    have : j = 0 ∨ j = 1 := by omega
    rcases this with rfl | rfl
    · exact h.1
    · exact h.2⟩
theorem fa3 {Q : Nat → Prop} : (∀ j, j < 4 - 1 → Q j) ↔ Q 0 ∧ Q 1 ∧ Q 2 :=
  ⟨fun h => ⟨h 0 (by omega), h 1 (by omega), h 2 (by omega)⟩, fun h j hj => by
    have : j = 0 ∨ j = 1 ∨ j = 2 := by omega
    rcases this with rfl | rfl | rfl
    · exact h.1
    · exact h.2.1
    · exact h.2.2⟩

theorem ctb_iff {s : List UInt8} {i : Nat} : ctb s i = true ↔ i < s.length ∧ bt s i / 64 = 2 := by simp [ctb]
theorem okc_iff {c : Nat} : okc c = true ↔ c < 55296 ∨ (57344 ≤ c ∧ c ≤ 1114111) := by
  simp only [okc, Utf8.valid, Bool.or_eq_true, Bool.and_eq_true, decide_eq_true_eq]; omega

theorem dec2 {s : List UInt8} {p : Nat} (h1 : 194 ≤ bt s p) (h2 : bt s p < 224) : dec s p = if (∀ j, j < 2 - 1 → ctb s (p + j + 1) = true) ∧ (128 : Int) ≤ accR ((bt s p : Int) - 192) s p (2 - 1) ∧ okc (accR ((bt s p : Int) - 192) s p (2 - 1)).toNat = true
    then ((accR ((bt s p : Int) - 192) s p (2 - 1)).toNat, 2) else (65533, 1) := by
  have hb := bt_lt s p
  have hb1 := bt_lt s (p + 1)
  simp only [fa1, accR, Nat.add_zero, okc_iff, ctb_iff]
  rw [dec_def, if_neg (by omega)]
  by_cases hc : p + 1 < s.length ∧ bt s (p + 1) / 64 = 2
  · rw [if_pos (by simp [ctb_iff, hc]; omega)]
    refine ite_cond (by simp only [hc, true_and, and_self]; omega) (fun _ => by simp only [Prod.mk.injEq, and_true]; omega)
  · rw [if_neg (by simp only [Bool.and_eq_true, ctb_iff]; exact fun k => hc k.2), if_neg (by simp; omega), if_neg (by simp; omega), if_neg (fun k => hc k.1)]

theorem dec3 {s : List UInt8} {p : Nat} (h1 : 224 ≤ bt s p) (h2 : bt s p < 240) : dec s p = if (∀ j, j < 3 - 1 → ctb s (p + j + 1) = true) ∧ (2048 : Int) ≤ accR ((bt s p : Int) - 224) s p (3 - 1) ∧ okc (accR ((bt s p : Int) - 224) s p (3 - 1)).toNat = true
    then ((accR ((bt s p : Int) - 224) s p (3 - 1)).toNat, 3) else (65533, 1) := by
  have hb := bt_lt s p
  have hb1 := bt_lt s (p + 1)
  have hb2 := bt_lt s (p + 2)
  simp only [fa2, accR, Nat.add_zero, okc_iff, ctb_iff, show p + 1 + 1 = p + 2 by omega]
  rw [dec_def, if_neg (by omega), if_neg (by simp; omega)]
  by_cases hc : (p + 1 < s.length ∧ bt s (p + 1) / 64 = 2) ∧ (p + 2 < s.length ∧ bt s (p + 2) / 64 = 2)
  · rw [if_pos (by simp [ctb_iff, hc]; omega)]
    refine ite_cond (by simp only [hc, true_and, and_self, Bool.and_eq_true, decide_eq_true_eq, okc_iff]; omega) (fun _ => by simp only [Prod.mk.injEq, and_true]; omega)
  · rw [if_neg (by simp only [Bool.and_eq_true, ctb_iff]; exact fun k => hc ⟨k.1.2, k.2⟩), if_neg (by simp; omega), if_neg (fun k => hc k.1)]

theorem dec4 {s : List UInt8} {p : Nat} (h1 : 240 ≤ bt s p) (h2 : bt s p < 245) : dec s p = if (∀ j, j < 4 - 1 → ctb s (p + j + 1) = true) ∧ (65536 : Int) ≤ accR ((bt s p : Int) - 240) s p (4 - 1) ∧ okc (accR ((bt s p : Int) - 240) s p (4 - 1)).toNat = true
    then ((accR ((bt s p : Int) - 240) s p (4 - 1)).toNat, 4) else (65533, 1) := by
  have hb := bt_lt s p
  have hb1 := bt_lt s (p + 1)
  have hb2 := bt_lt s (p + 2)
  have hb3 := bt_lt s (p + 3)
  simp only [fa3, accR, Nat.add_zero, okc_iff, ctb_iff, show p + 1 + 1 = p + 2 by omega, show p + 2 + 1 = p + 3 by omega]
  rw [dec_def, if_neg (by omega), if_neg (by simp; omega), if_neg (by simp; omega)]
  by_cases hc : (p + 1 < s.length ∧ bt s (p + 1) / 64 = 2) ∧ (p + 2 < s.length ∧ bt s (p + 2) / 64 = 2) ∧ (p + 3 < s.length ∧ bt s (p + 3) / 64 = 2)
  · rw [if_pos (by simp [ctb_iff, hc]; omega)]
    refine ite_cond (by simp only [hc, true_and, and_self, Bool.and_eq_true, decide_eq_true_eq, okc_iff]; omega) (fun _ => by simp only [Prod.mk.injEq, and_true]; omega)
  · rw [if_neg (by simp only [Bool.and_eq_true, ctb_iff]; exact fun k => hc ⟨k.1.1.2, k.1.2, k.2⟩), if_neg (fun k => hc k.1)]

theorem decX {s : List UInt8} {p : Nat} (h : (128 ≤ bt s p ∧ bt s p < 194) ∨ 245 ≤ bt s p) : dec s p = (65533, 1) := by
  have hb := bt_lt s p
  have hb1 := bt_lt s (p + 1)
  have hb2 := bt_lt s (p + 2)
  have hb3 := bt_lt s (p + 3)
  rw [dec_def, if_neg (by omega)]
  simp only [okc_iff, Bool.and_eq_true, decide_eq_true_eq, beq_iff_eq, ge_iff_le]
  split
  · split
    · omega
    · rfl
  · split
    · omega
    · split
      · split
        · omega
        · rfl
      · rfl

theorem bt_at {s : List UInt8} {i : Nat} (h : i < s.length) : (s[i].toNat) = bt s i := by
  simp [bt, List.getD_eq_getElem?_getD, h]

def okd (s : List UInt8) (p : Nat) : Bool := decide (dec s p ≠ (65533, 1))
theorem okd_eq (s : List UInt8) (p : Nat) : okd s p = decide (dec s p ≠ (65533, 1)) := rfl

end Tab

/- Lists compared. -/
namespace Tab
open Go Go.Proofs
set_option maxRecDepth 10000
set_option linter.unusedVariables false
set_option linter.unusedSimpArgs false
set_option linter.unusedSectionVars false

end Tab

/- Names, lists of names. -/
namespace Tab
open Go Go.Proofs
set_option maxRecDepth 10000
set_option linter.unusedVariables false
set_option linter.unusedSimpArgs false
set_option linter.unusedSectionVars false

def nmFrom (s : List UInt8) : Nat → Nat → Nat → Option Nat
  | 0, _, n => some n
  | f + 1, p, n => if p < s.length then (if ((decide (p = 0) && !startR (dec s p).1) || !restR (dec s p).1) = true then none else nmFrom s f (p + (dec s p).2) (n + 1)) else some n

def nameS (s : List UInt8) : Bool := match nmFrom s (s.length + 1) 0 0 with
  | none => false
  | some n => decide (0 < n) && decide (n ≤ 16) && !resS s

theorem dec_width (s : List UInt8) (p : Nat) : 1 ≤ (dec s p).2 ∧ (dec s p).2 ≤ 4 := by
  rw [dec_def]
  simp only []
  repeat' split
  all_goals simp

def NmInv (s : List UInt8) (x : Nat × Nat × Nat) : Prop :=
  nmFrom s (s.length + 1) 0 0 = nmFrom s x.2.2 x.1 x.2.1 ∧ s.length < x.1 + x.2.2 ∧ x.2.1 ≤ x.1 ∧ x.1 ≤ s.length + 3 ∧ (x.2.1 = 0 ↔ x.1 = 0)

theorem NmInv.step {s : List UInt8} {p n f : Nat} (h : NmInv s (p, n, f)) (hp : p < s.length) (hg : ((decide (p = 0) && !startR (dec s p).1) || !restR (dec s p).1) = false) : NmInv s (p + (dec s p).2, n + 1, f - 1) := by
  obtain ⟨h1, h2, h3, h4, h5⟩ := h
  have hw := dec_width s p
  simp only at h1 h2 h3 h4 h5
  refine ⟨?_, by simp only; omega, by simp only; omega, by simp only; omega, by simp only; omega⟩
  obtain ⟨f, rfl⟩ : ∃ k, f = k + 1 := ⟨f - 1, by omega⟩
  rw [h1, nmFrom, if_pos hp, if_neg (by rw [hg]; simp)]
  rfl
theorem NmInv.bad {s : List UInt8} {p n f : Nat} (h : NmInv s (p, n, f)) (hp : p < s.length) (hg : ((decide (p = 0) && !startR (dec s p).1) || !restR (dec s p).1) = true) : nameS s = false := by
  obtain ⟨h1, h2, h3, h4, h5⟩ := h
  simp only at h1 h2 h3 h4 h5
  obtain ⟨f, rfl⟩ : ∃ k, f = k + 1 := ⟨f - 1, by omega⟩
  have e : nmFrom s (f + 1) p n = none := by rw [nmFrom, if_pos hp, if_pos hg]
  rw [e] at h1
  simp [nameS, h1]
theorem NmInv.done {s : List UInt8} {p n f : Nat} (h : NmInv s (p, n, f)) (hp : ¬ p < s.length) : nameS s = (decide (0 < n) && decide (n ≤ 16) && !resS s) := by
  obtain ⟨h1, h2, h3, h4, h5⟩ := h
  simp only at h1 h2 h3 h4 h5
  have : nmFrom s f p n = some n := by
    cases f with
    | zero => rfl
    | succ f => rw [nmFrom, if_neg hp]
  rw [this] at h1
  simp [nameS, h1]

end Tab

/- Decoding: suffixes, widths, runs, counts. -/
namespace Tab
open Go Go.Proofs
set_option maxRecDepth 10000
set_option linter.unusedVariables false
set_option linter.unusedSimpArgs false
set_option linter.unusedSectionVars false

theorem bt_drop (s : List UInt8) (p i : Nat) : bt (s.drop p) i = bt s (p + i) := by simp [bt, List.getD_eq_getElem?_getD]
theorem ctb_drop (s : List UInt8) (p i : Nat) : ctb (s.drop p) i = ctb s (p + i) := by
  rw [ctb, ctb, bt_drop]
  congr 1
  simp only [List.length_drop]
  exact decide_eq_decide.2 (by omega)
theorem accR_drop (x : Int) (s : List UInt8) (p q : Nat) : ∀ n, accR x (s.drop p) q n = accR x s (p + q) n
  | 0 => rfl
  | n + 1 => by simp only [accR, accR_drop x s p q n, bt_drop]; simp only [Nat.add_assoc]

theorem dec_drop (s : List UInt8) (p q : Nat) : dec (s.drop p) q = dec s (p + q) := by
  rw [dec_def, dec_def]
  simp only [bt_drop, ctb_drop, Nat.add_assoc]
theorem dec_fits {s : List UInt8} {p : Nat} (hp : p < s.length) : p + (dec s p).2 ≤ s.length := by
  have hc : ∀ i, ctb s i = true → i < s.length := fun i h => (ctb_iff.1 h).1
  rw [dec_def]
  simp only [Bool.and_eq_true]
  repeat' split
  all_goals simp only
  all_goals first
    | omega
    | (rename_i h _; have := hc _ h.2; omega)

/-- The runes of a text, from its beginning, that are like this: how many bytes. -/
def runL (p : Int → Bool) : Nat → List UInt8 → Nat
  | 0, _ => 0
  | f + 1, s => if s.length = 0 then 0 else if p (dec s 0).1 = true then (dec s 0).2 + runL p f (s.drop (dec s 0).2) else 0
def runS (p : Int → Bool) (s : List UInt8) : Nat := runL p s.length s
def chL : Nat → List UInt8 → Nat
  | 0, _ => 0
  | f + 1, s => if s.length = 0 then 0 else 1 + chL f (s.drop (dec s 0).2)
def chS (s : List UInt8) : Nat := chL s.length s

theorem runL_fuel (p : Int → Bool) : ∀ (f g : Nat) (s : List UInt8), s.length ≤ f → s.length ≤ g → runL p f s = runL p g s
  | 0, 0, _, _, _ => rfl
  | 0, g + 1, s, h, _ => by rw [runL, runL, if_pos (by omega)]
  | f + 1, 0, s, _, h => by rw [runL, runL, if_pos (by omega)]
  | f + 1, g + 1, s, h1, h2 => by
    rw [runL, runL]
    by_cases hs : s.length = 0
    · rw [if_pos hs, if_pos hs]
    · have hw := dec_width s 0
      rw [if_neg hs, if_neg hs, runL_fuel p f g (s.drop (dec s 0).2) (by simp; omega) (by simp; omega)]
theorem chL_fuel : ∀ (f g : Nat) (s : List UInt8), s.length ≤ f → s.length ≤ g → chL f s = chL g s
  | 0, 0, _, _, _ => rfl
  | 0, g + 1, s, h, _ => by rw [chL, chL, if_pos (by omega)]
  | f + 1, 0, s, _, h => by rw [chL, chL, if_pos (by omega)]
  | f + 1, g + 1, s, h1, h2 => by
    rw [chL, chL]
    by_cases hs : s.length = 0
    · rw [if_pos hs, if_pos hs]
    · have hw := dec_width s 0
      rw [if_neg hs, if_neg hs, chL_fuel f g (s.drop (dec s 0).2) (by simp; omega) (by simp; omega)]
theorem runS_nil {p s} (h : s.length = 0) : runS p s = 0 := by rw [runS, h]; rfl
theorem runS_no {p s} (h : p (dec s 0).1 = false) : runS p s = 0 := by
  rw [runS]
  cases e : s.length with
  | zero => rfl
  | succ n => rw [runL, if_neg (by omega), if_neg (by simp [h])]
theorem runS_yes {p s} (hs : s.length ≠ 0) (h : p (dec s 0).1 = true) : runS p s = (dec s 0).2 + runS p (s.drop (dec s 0).2) := by
  have hw := dec_width s 0
  rw [runS]
  cases e : s.length with
  | zero => exact absurd e hs
  | succ n => rw [runL, if_neg (by omega), if_pos h, runS, runL_fuel p n _ _ (by simp; omega) (Nat.le_refl _)]
theorem chS_nil {s} (h : s.length = 0) : chS s = 0 := by rw [chS, h]; rfl
theorem chS_step {s} (hs : s.length ≠ 0) : chS s = 1 + chS (s.drop (dec s 0).2) := by
  have hw := dec_width s 0
  rw [chS]
  cases e : s.length with
  | zero => exact absurd e hs
  | succ n => rw [chL, if_neg (by omega), chS, chL_fuel n _ _ (by simp; omega) (Nat.le_refl _)]
theorem runS_le (p : Int → Bool) : ∀ (n : Nat) (s : List UInt8), s.length = n → runS p s ≤ s.length := by
  intro n
  induction n using Nat.strongRecOn with
  | _ n ih =>
    intro s hn
    by_cases hs : s.length = 0
    · rw [runS_nil hs]; omega
    · cases h : p (dec s 0).1 with
      | false => rw [runS_no h]; omega
      | true =>
        have hw := dec_width s 0
        have hf := dec_fits (s := s) (p := 0) (by omega)
        have := ih (s.drop (dec s 0).2).length (by simp; omega) (s.drop (dec s 0).2) rfl
        rw [runS_yes hs h]
        simp at this
        omega
theorem chS_le : ∀ (n : Nat) (s : List UInt8), s.length = n → chS s ≤ s.length := by
  intro n
  induction n using Nat.strongRecOn with
  | _ n ih =>
    intro s hn
    by_cases hs : s.length = 0
    · rw [chS_nil hs]; omega
    · have hw := dec_width s 0
      have hf := dec_fits (s := s) (p := 0) (by omega)
      have := ih (s.drop (dec s 0).2).length (by simp; omega) (s.drop (dec s 0).2) rfl
      rw [chS_step hs]
      simp at this
      omega

theorem dec_ascii {s : List UInt8} {p : Nat} (h : bt s p < 128) : dec s p = (bt s p, 1) := by
  rw [dec_def, if_pos h]
theorem dec_small {s : List UInt8} {p : Nat} (h : (dec s p).1 < 128) : bt s p < 128 := by
  by_cases hb : bt s p < 128
  · exact hb
  · exfalso
    rw [dec_def, if_neg hb] at h
    simp only at h
    repeat' split at h
    all_goals first
      | (simp at h; done)
      | (rename_i hc; simp only [Bool.and_eq_true, decide_eq_true_eq, ge_iff_le] at hc; simp only at h; omega)

end Tab

/- Words of a formula's text: what the lexer reads. Plain. -/
namespace Tab
open Go
set_option maxRecDepth 10000
set_option linter.unusedVariables false
set_option linter.unusedSimpArgs false
set_option linter.unusedSectionVars false

abbrev Str := List UInt8
def blankR (r : Int) : Bool := decide (r = 32) || decide (r = 9) || decide (r = 10) || decide (r = 13)
def digR (r : Int) : Bool := decide (48 ≤ r) && decide (r ≤ 57)
def plainT : List (Int × Str) := [(8804, [60, 61]), (8805, [62, 61]), (8800, [33, 61]), (8801, [126]), (8722, [45]), (183, [42]), (8594, [45, 62]), (8596, [60, 45, 62]), (8743, [97, 110, 100]), (8744, [111, 114]), (172, [110, 111, 116]), (8707, [101, 120]), (8704, [97, 108, 108])]
def plainS (r : Int) : Str := ((plainT.find? fun p => decide (r = p.1)).map (·.2)).getD []
def signL : List Str := [[60, 45, 62], [60, 61], [62, 61], [33, 61], [45, 62], [40], [41], [91], [93], [44], [46], [43], [45], [42], [61], [60], [62], [126]]
def numL : Nat → Str → Option Nat
  | n, [] => some n
  | n, c :: t => if n > (9223372036854775807 - (c.toNat - 48)) / 10 then none else numL (10 * n + (c.toNat - 48)) t
def numS (t : Str) : Option Nat := numL 0 t
structure Tok where
  kind : Int
  text : Str
  num : Nat
  n : Nat
  err : Int
def tokBad (e : Int) : Tok := ⟨0, [], 0, 0, e⟩
def nameT (t : Str) (n : Nat) : Tok := if resS t = true then ⟨2, t, 0, n, 0⟩ else if 16 < chS t then ⟨0, [], 0, n, 6⟩ else ⟨0, t, 0, n, 0⟩
def signT (s : Str) : Tok := match signL.find? fun t => t.isPrefixOf s with
  | some t => ⟨2, t, 0, t.length, 0⟩
  | none => tokBad 51
def tokS (s : Str) : Tok :=
  if (dec s 0).1 = 65533 ∧ (dec s 0).2 ≤ 1 then tokBad 50
  else if startR (dec s 0).1 = true then nameT (s.take (runS restR s)) (runS restR s)
  else if digR (dec s 0).1 = true then (match numS (s.take (runS digR s)) with
    | some v => ⟨1, [], v, runS digR s, 0⟩
    | none => tokBad 52)
  else if plainS (dec s 0).1 ≠ [] then ⟨2, plainS (dec s 0).1, 0, (dec s 0).2, 0⟩
  else signT s
structure Wd where
  kind : Int
  text : Str
  num : Nat
  at' : Nat
  ch : Nat
structure Flt where
  why : Int
  at' : Nat
  ch : Nat
def flt0 : Flt := ⟨0, 0, 0⟩
/-- The words from a place on, or the fault. -/
def lexL (s : Str) : Nat → Nat → Nat → Nat → List Wd × Flt
  | 0, _, _, _ => ([], flt0)
  | f + 1, a, ch, ct => if s.length ≤ a then ([], flt0) else
    let c := ch + chS ((s.take a).drop ct)
    let t := tokS (s.drop a)
    if t.err ≠ 0 then ([], ⟨t.err, a, c⟩) else
    let r := lexL s f (a + t.n + runS blankR (s.drop (a + t.n))) c a
    if r.2.why ≠ 0 then ([], r.2) else (⟨t.kind, t.text, t.num, a, c⟩ :: r.1, r.2)
def lexS (s : Str) : List Wd × Flt := if 4096 < s.length then ([], ⟨70, 0, 0⟩) else lexL s (s.length + 1) (runS blankR s) 0 0

end Tab

/- Characters: blanks, digits, plain ones; runs of characters, how many there are; what a text begins with. -/
namespace Tab
open Go Go.Proofs
set_option maxRecDepth 10000
set_option linter.unusedVariables false
set_option linter.unusedSimpArgs false
set_option linter.unusedSectionVars false

theorem glyph_Blank (r : Int) : Pure Tryd.prog 11 [.int .i32 r] (.bool (blankR r)) := by
  refine Pure.of_sw 17 Tryd.func11 rfl Tryd.ntmps11 (by kernel_rfl) (Nat.le_of_ble_eq_true (by kernel_rfl)) (by simp [closeds, AV.closed, aSs_closed, aIs_closed, aBs_closed, aRs_closed, aDen_closed]) (by simp [AV.closed, closeds, aSs_closed, aIs_closed, aBs_closed, aRs_closed, aDen_closed]) ?_; refine SW.of_vc ?_
  repeat' first | refine opsStep ?_ | refine codeStep ?_ | refine decB_split (fun h => ?_) (fun h => ?_)
  all_goals exact finB rfl (by simp at *; simp [blankR]; omega)

theorem lex_digit (r : Int) : Pure Tryd.prog 21 [.int .i32 r] (.bool (digR r)) := by
  refine Pure.of_sw 9 Tryd.func21 rfl Tryd.ntmps21 (by kernel_rfl) (Nat.le_of_ble_eq_true (by kernel_rfl)) (by simp [closeds, AV.closed, aSs_closed, aIs_closed, aBs_closed, aRs_closed, aDen_closed]) (by simp [AV.closed, closeds, aSs_closed, aIs_closed, aBs_closed, aRs_closed, aDen_closed]) ?_; refine SW.of_vc ?_
  repeat' first | refine opsStep ?_ | refine codeStep ?_ | refine decB_split (fun h => ?_) (fun h => ?_)
  all_goals exact finB rfl (by simp at *; simp [digR]; omega)

theorem lex_run (s : Str) (f : FuncId) (p : Int → Bool) (hl : s.length < 2^62) (hf : ∀ r : Int, Pure Tryd.prog f [.int .i32 r] (.bool (p r))) : Pure Tryd.prog 13 [.str s, .fn (.func f) [] []] (.int .i64 (runS p s)) := by
  refine Pure.of_sw 20 Tryd.func13 rfl Tryd.ntmps13 (by kernel_rfl) (Nat.le_of_ble_eq_true (by kernel_rfl)) (by simp [closeds, AV.closed, aSs_closed, aIs_closed, aBs_closed, aRs_closed, aDen_closed]) (by simp [AV.closed, closeds, aSs_closed, aIs_closed, aBs_closed, aRs_closed, aDen_closed]) ?_; refine SW.of_vc ?_
  repeat first | refine opsStep ?_ | refine codeStep ?_ | refine drawStep ?_
  refine loopE_of (ι := {a : Nat // runS p s = a + runS p (s.drop a) ∧ a ≤ s.length}) (fun a => (fr [(0, .str s), (1, .fn (.func f) [] []), (8, .ref 0 0 0)], [.siter s a.1])) (fun a => s.length - a.1)
    ⟨0, by rw [List.drop_zero, Nat.zero_add], Nat.zero_le _⟩ (Ent.fr' ⟨(by kernel_rfl), (by kernel_rfl), (by kernel_rfl), trivial⟩ (by kernel_rfl)) ?_
  rintro ⟨a, h1, h2⟩
  have hw := dec_width s a
  have e0 : dec (s.drop a) 0 = dec s a := by rw [dec_drop, Nat.add_zero]
  repeat first | refine opsStep ?_ | refine codeStep ?_ | refine drawStep ?_
  refine decB_dec (fun hp => ?_) (fun hp => ?_)
  · have hp' : a < s.length := hp
    have hfit := dec_fits hp'
    have hne : (s.drop a).length ≠ 0 := by rw [List.length_drop]; omega
    repeat first | refine opsStep ?_ | refine codeStep ?_ | refine drawStep ?_
    refine callP (hf _) ?_
    repeat first | refine opsStep ?_ | refine codeStep ?_ | refine drawStep ?_
    refine decB_split (fun h => ?_) (fun h => ?_)
    · repeat first | refine opsStep ?_ | refine codeStep ?_ | refine drawStep ?_
      exact finV (v' := .int .i64 a) (by kernel_rfl) (by rw [h1, runS_no (by rw [e0]; simpa using h), Nat.add_zero])
    · repeat first | refine opsStep ?_ | refine codeStep ?_ | refine drawStep ?_
      exact ⟨⟨a + (dec s a).2, by rw [h1, runS_yes hne (by rw [e0]; simpa using h), e0, List.drop_drop, Nat.add_assoc], hfit⟩, (by show s.length - (a + (dec s a).2) < s.length - a; omega), Ent.fr' ⟨(by kernel_rfl), (by kernel_rfl), (by kernel_rfl), trivial⟩ (by kernel_rfl)⟩
  · have hp' : ¬ a < s.length := hp
    repeat first | refine opsStep ?_ | refine codeStep ?_ | refine drawStep ?_
    exact finV (v' := .int .i64 s.length) (by kernel_rfl) (by rw [h1, runS_nil (by rw [List.length_drop]; omega)]; congr 1; omega)

theorem runeCount (s : Str) (hl : s.length < 2^62) : Pure Tryd.prog 14 [.str s] (.int .i64 (chS s)) := by
  refine Pure.of_sw 10 Tryd.func14 rfl Tryd.ntmps14 (by kernel_rfl) (Nat.le_of_ble_eq_true (by kernel_rfl)) (by simp [closeds, AV.closed, aSs_closed, aIs_closed, aBs_closed, aRs_closed, aDen_closed]) (by simp [AV.closed, closeds, aSs_closed, aIs_closed, aBs_closed, aRs_closed, aDen_closed]) ?_; refine SW.of_vc ?_
  repeat first | refine opsStep ?_ | refine codeStep ?_ | refine drawStep ?_
  refine loopE_of (ι := {x : Nat × Nat // chS s = x.2 + chS (s.drop x.1) ∧ x.1 ≤ s.length ∧ x.2 ≤ x.1}) (fun x => (fr [(2, .int .i64 x.1.2), (4, .ref 0 0 0)], [.siter s x.1.1])) (fun x => s.length - x.1.1)
    ⟨(0, 0), by simp, Nat.zero_le _, Nat.zero_le _⟩ (Ent.fr' ⟨(by kernel_rfl), (by kernel_rfl), trivial⟩ (by kernel_rfl)) ?_
  rintro ⟨⟨a, n⟩, h1, h2, h3⟩
  simp only at h1 h2 h3
  have hw := dec_width s a
  have e0 : dec (s.drop a) 0 = dec s a := by rw [dec_drop, Nat.add_zero]
  repeat first | refine opsStep ?_ | refine codeStep ?_ | refine drawStep ?_
  refine decB_dec (fun hp => ?_) (fun hp => ?_)
  · have hp' : a < s.length := hp
    have hfit := dec_fits hp'
    have hne : (s.drop a).length ≠ 0 := by rw [List.length_drop]; omega
    repeat first | refine opsStep ?_ | refine codeStep ?_ | refine drawStep ?_
    exact ⟨⟨(a + (dec s a).2, n + 1), by simp only; rw [h1, chS_step hne, e0, List.drop_drop, Nat.add_assoc], hfit, by simp only; omega⟩, (by show s.length - (a + (dec s a).2) < s.length - a; omega), Ent.fr' ⟨inc_slot (i := n) (by omega), (by kernel_rfl), trivial⟩ (by kernel_rfl)⟩
  · have hp' : ¬ a < s.length := hp
    repeat first | refine opsStep ?_ | refine codeStep ?_ | refine drawStep ?_
    exact finV (v' := .int .i64 n) (by kernel_rfl) (by rw [h1, chS_nil (by rw [List.length_drop]; omega), Nat.add_zero])

theorem sl_HasPrefix (s t : Str) (hs : s.length < 2^62) (ht : t.length < 2^62) : Pure Tryd.prog 30 [.str s, .str t] (.bool (t.isPrefixOf s)) := by
  have key : t.isPrefixOf s = (decide (t.length ≤ s.length) && decide (s.take t.length = t)) := by
    rw [Bool.eq_iff_iff, List.isPrefixOf_iff_prefix, List.prefix_iff_eq_take, Bool.and_eq_true, decide_eq_true_eq, decide_eq_true_eq]
    constructor
    · intro h
      refine ⟨?_, h.symm⟩
      have := congrArg List.length h
      rw [List.length_take] at this
      omega
    · exact fun h => h.2.symm
  rw [key]
  refine Pure.of_sw 18 Tryd.func30 rfl Tryd.ntmps30 (by kernel_rfl) (Nat.le_of_ble_eq_true (by kernel_rfl)) (by simp [closeds, AV.closed, aSs_closed, aIs_closed, aBs_closed, aRs_closed, aDen_closed]) (by simp [AV.closed, closeds, aSs_closed, aIs_closed, aBs_closed, aRs_closed, aDen_closed]) ?_; refine SW.of_vc ?_
  repeat' first | refine opsStep ?_ | refine codeStep ?_ | refine decB_split (fun h => ?_) (fun h => ?_)
  · refine guardE_of (by simp at h ⊢; omega) ?_
    repeat first | refine opsStep ?_ | refine codeStep ?_ | refine drawStep ?_
    refine finB (b' := decide (s.take t.length = t)) (by kernel_rfl) ?_
    have : t.length ≤ s.length := by simp at h; omega
    simp [this]
  · refine finB (b' := false) (by kernel_rfl) ?_
    have : ¬ t.length ≤ s.length := by simp at h; omega
    simp [this]
theorem hasPrefix (s t : Str) (hs : s.length < 2^62) (ht : t.length < 2^62) : Pure Tryd.prog 25 [.str s, .str t] (.bool (t.isPrefixOf s)) := by
  refine Pure.of_sw 8 Tryd.func25 rfl Tryd.ntmps25 (by kernel_rfl) (Nat.le_of_ble_eq_true (by kernel_rfl)) (by simp [closeds, AV.closed, aSs_closed, aIs_closed, aBs_closed, aRs_closed, aDen_closed]) (by simp [AV.closed, closeds, aSs_closed, aIs_closed, aBs_closed, aRs_closed, aDen_closed]) ?_; refine SW.of_vc ?_
  repeat first | refine opsStep ?_ | refine codeStep ?_ | refine drawStep ?_
  refine callP (sl_HasPrefix s t hs ht) ?_
  repeat first | refine opsStep ?_ | refine codeStep ?_ | refine drawStep ?_
  exact finB (by kernel_rfl) rfl

theorem plain_none {r : Int} (h : ∀ p ∈ plainT, r ≠ p.1) : plainS r = [] := by
  rw [plainS, List.find?_eq_none.2 (fun p hp => by simpa using h p hp)]
  rfl
theorem glyph_Plain (r : Int) : Pure Tryd.prog 23 [.int .i32 r] (.str (plainS r)) := by
  refine Pure.of_sw 30 Tryd.func23 rfl Tryd.ntmps23 (by kernel_rfl) (Nat.le_of_ble_eq_true (by kernel_rfl)) (by simp [closeds, AV.closed, aSs_closed, aIs_closed, aBs_closed, aRs_closed, aDen_closed]) (by simp [AV.closed, closeds, aSs_closed, aIs_closed, aBs_closed, aRs_closed, aDen_closed]) ?_; refine SW.of_vc ?_
  repeat' first | refine opsStep ?_ | refine codeStep ?_ | refine decB_split (fun h => ?_) (fun h => ?_)
  all_goals first
    | (have e := of_decide_eq_true h; subst e; exact finV rfl (congrArg AV.str (by decide)))
    | exact finV (v' := .str []) rfl (congrArg AV.str (plain_none (by simp [plainT]; simp_all)).symm)

end Tab

/- Decoding at cuts: plain. -/
namespace Tab
open Go
set_option maxRecDepth 10000
set_option linter.unusedVariables false
set_option linter.unusedSimpArgs false
set_option linter.unusedSectionVars false

theorem bt_take {s : Str} {m i : Nat} (h : i < m) : bt (s.take m) i = bt s i := by
  rw [bt, bt, List.getD_eq_getElem?_getD, List.getD_eq_getElem?_getD, List.getElem?_take_of_lt h]
theorem ctb_take {s : Str} {m i : Nat} (h : i < m) : ctb (s.take m) i = ctb s i := by
  rw [ctb, ctb, bt_take h, List.length_take]
  congr 1
  exact decide_eq_decide.2 (by omega)
theorem ctb_cut {s : Str} {m i : Nat} (h : m ≤ i) : ctb (s.take m) i = false := by
  rw [ctb, decide_eq_false (by rw [List.length_take]; omega)]; rfl
theorem dec_take {s : Str} {m p : Nat} (hm : p + (dec s p).2 ≤ m) : dec (s.take m) p = dec s p := by
  have hw := (dec_width s p).1
  have hp : p < m := by omega
  rw [dec_def (s.take m), bt_take hp]
  rw [dec_def s] at hm
  by_cases h0 : bt s p < 0x80
  · rw [if_pos h0, dec_def s, if_pos h0]
  rw [if_neg h0] at hm
  rw [if_neg h0, dec_def s, if_neg h0]
  have cut : ∀ i, ctb (s.take m) i = true → ctb s i = true := fun i h => by
    by_cases e : i < m
    · rwa [ctb_take e] at h
    · rw [ctb_cut (by omega)] at h; cases h
  have one : ∀ {b : Bool} {x y : Nat × Nat}, b = true → (if b = true then x else y) = x := fun h => by rw [if_pos h]
  by_cases h1 : (bt s p / 32 == 6 && ctb s (p + 1)) = true
  · rw [if_pos h1] at hm ⊢
    by_cases hc : (bt s p % 32) * 64 + bt s (p + 1) % 64 ≥ 0x80
    · simp only [if_pos hc] at hm ⊢
      rw [bt_take (by omega), ctb_take (by omega), if_pos h1, if_pos hc]
    · simp only [if_neg hc] at hm ⊢
      by_cases e : p + 1 < m
      · rw [bt_take e, ctb_take e, if_pos h1, if_neg hc]
      · simp only [ctb_cut (s := s) (m := m) (i := p + 1) (by omega), Bool.and_false, Bool.false_and, Bool.false_eq_true, if_false]
  · have h1' : ¬ (bt s p / 32 == 6 && ctb (s.take m) (p + 1)) = true := fun h => h1 (by
      simp only [Bool.and_eq_true] at h ⊢; exact ⟨h.1, cut _ h.2⟩)
    rw [if_neg h1] at hm ⊢
    rw [if_neg h1']
    by_cases h2 : (bt s p / 16 == 14 && ctb s (p + 1) && ctb s (p + 2)) = true
    · rw [if_pos h2] at hm ⊢
      by_cases hc : (decide ((bt s p % 16) * 4096 + (bt s (p + 1) % 64) * 64 + bt s (p + 2) % 64 ≥ 0x800) && okc ((bt s p % 16) * 4096 + (bt s (p + 1) % 64) * 64 + bt s (p + 2) % 64)) = true
      · simp only [if_pos hc] at hm ⊢
        rw [bt_take (show p + 1 < m by omega), ctb_take (show p + 1 < m by omega), bt_take (show p + 2 < m by omega), ctb_take (show p + 2 < m by omega), if_pos h2, if_pos hc]
      · simp only [if_neg hc] at hm ⊢
        by_cases e : p + 2 < m
        · rw [bt_take (show p + 1 < m by omega), ctb_take (show p + 1 < m by omega), bt_take e, ctb_take e, if_pos h2, if_neg hc]
        · have h8 : (bt s p / 16 == 14) = true := by simp only [Bool.and_eq_true] at h2; exact h2.1.1
          have h9 : (bt s p / 8 == 30) = false := by
            rw [beq_iff_eq] at h8; rw [beq_eq_false_iff_ne]; omega
          simp only [ctb_cut (s := s) (m := m) (i := p + 2) (by omega), h9, Bool.and_false, Bool.false_and, Bool.false_eq_true, if_false]
    · have h2' : ¬ (bt s p / 16 == 14 && ctb (s.take m) (p + 1) && ctb (s.take m) (p + 2)) = true := fun h => h2 (by
        simp only [Bool.and_eq_true] at h ⊢; exact ⟨⟨h.1.1, cut _ h.1.2⟩, cut _ h.2⟩)
      rw [if_neg h2] at hm ⊢
      rw [if_neg h2']
      by_cases h3 : (bt s p / 8 == 30 && ctb s (p + 1) && ctb s (p + 2) && ctb s (p + 3)) = true
      · rw [if_pos h3] at hm ⊢
        by_cases hc : (decide ((bt s p % 8) * 262144 + (bt s (p + 1) % 64) * 4096 + (bt s (p + 2) % 64) * 64 + bt s (p + 3) % 64 ≥ 0x10000) && okc ((bt s p % 8) * 262144 + (bt s (p + 1) % 64) * 4096 + (bt s (p + 2) % 64) * 64 + bt s (p + 3) % 64)) = true
        · simp only [if_pos hc] at hm ⊢
          rw [bt_take (show p + 1 < m by omega), ctb_take (show p + 1 < m by omega), bt_take (show p + 2 < m by omega), ctb_take (show p + 2 < m by omega), bt_take (show p + 3 < m by omega), ctb_take (show p + 3 < m by omega), if_pos h3, if_pos hc]
        · simp only [if_neg hc] at hm ⊢
          by_cases e : p + 3 < m
          · rw [bt_take (show p + 1 < m by omega), ctb_take (show p + 1 < m by omega), bt_take (show p + 2 < m by omega), ctb_take (show p + 2 < m by omega), bt_take e, ctb_take e, if_pos h3, if_neg hc]
          · simp only [ctb_cut (s := s) (m := m) (i := p + 3) (by omega), Bool.and_false, Bool.false_and, Bool.false_eq_true, if_false]
      · have h3' : ¬ (bt s p / 8 == 30 && ctb (s.take m) (p + 1) && ctb (s.take m) (p + 2) && ctb (s.take m) (p + 3)) = true := fun h => h3 (by
          simp only [Bool.and_eq_true] at h ⊢; exact ⟨⟨⟨h.1.1.1, cut _ h.1.1.2⟩, cut _ h.1.2⟩, cut _ h.2⟩)
        rw [if_neg h3] at hm ⊢
        rw [if_neg h3']
/-- A character ends ahead of each later byte that begins one of its own. -/
theorem dec_stop {s : Str} {m p : Nat} (hp : p < m) (hm : bt s m < 128) : p + (dec s p).2 ≤ m := by
  have hc : ∀ i, ctb s i = true → i ≠ m := fun i h e => by
    have := (ctb_iff.1 h).2
    subst e; omega
  rw [dec_def]
  simp only [Bool.and_eq_true]
  repeat' split
  all_goals simp only
  all_goals first
    | omega
    | (rename_i h _; have h1 := hc _ h.2; omega)
    | (rename_i h _; have h1 := hc _ h.2; have h2 := hc _ h.1.2; omega)
    | (rename_i h _; have h1 := hc _ h.2; have h2 := hc _ h.1.2; have h3 := hc _ h.1.1.2; omega)

end Tab

/- Runs and counts of characters at cuts: plain. -/
namespace Tab
open Go
set_option maxRecDepth 10000
set_option linter.unusedVariables false
set_option linter.unusedSimpArgs false
set_option linter.unusedSectionVars false

theorem dec_cut {s : Str} {m p : Nat} (h1 : p < m) (h2 : m < p + (dec s p).2) : dec (s.take m) p = (65533, 1) := by
  rw [dec_def (s.take m), bt_take h1]
  rw [dec_def s] at h2
  by_cases h0 : bt s p < 0x80
  · rw [if_pos h0] at h2; simp only at h2; omega
  rw [if_neg h0] at h2 ⊢
  by_cases e1 : (bt s p / 32 == 6 && ctb s (p + 1)) = true
  · rw [if_pos e1] at h2
    have h8 : bt s p / 32 = 6 := by simp only [Bool.and_eq_true, beq_iff_eq] at e1; exact e1.1
    have c1 : ctb (s.take m) (p + 1) = false := by
      by_cases hc : (bt s p % 32) * 64 + bt s (p + 1) % 64 ≥ 0x80
      · simp only [if_pos hc] at h2; exact ctb_cut (by omega)
      · simp only [if_neg hc] at h2; omega
    have h9 : (bt s p / 16 == 14) = false := by rw [beq_eq_false_iff_ne]; omega
    have h10 : (bt s p / 8 == 30) = false := by rw [beq_eq_false_iff_ne]; omega
    simp only [c1, h9, h10, Bool.and_false, Bool.false_and, Bool.false_eq_true, if_false]
  · rw [if_neg e1] at h2
    by_cases e2 : (bt s p / 16 == 14 && ctb s (p + 1) && ctb s (p + 2)) = true
    · rw [if_pos e2] at h2
      have h8 : bt s p / 16 = 14 := by simp only [Bool.and_eq_true, beq_iff_eq] at e2; exact e2.1.1
      have c1 : ctb (s.take m) (p + 2) = false := by
        by_cases hc : (decide ((bt s p % 16) * 4096 + (bt s (p + 1) % 64) * 64 + bt s (p + 2) % 64 ≥ 0x800) && okc ((bt s p % 16) * 4096 + (bt s (p + 1) % 64) * 64 + bt s (p + 2) % 64)) = true
        · simp only [if_pos hc] at h2; exact ctb_cut (by omega)
        · simp only [if_neg hc] at h2; omega
      have h9 : (bt s p / 32 == 6) = false := by rw [beq_eq_false_iff_ne]; omega
      have h10 : (bt s p / 8 == 30) = false := by rw [beq_eq_false_iff_ne]; omega
      simp only [c1, h9, h10, Bool.and_false, Bool.false_and, Bool.false_eq_true, if_false]
    · rw [if_neg e2] at h2
      by_cases e3 : (bt s p / 8 == 30 && ctb s (p + 1) && ctb s (p + 2) && ctb s (p + 3)) = true
      · rw [if_pos e3] at h2
        have h8 : bt s p / 8 = 30 := by simp only [Bool.and_eq_true, beq_iff_eq] at e3; exact e3.1.1.1
        have c1 : ctb (s.take m) (p + 3) = false := by
          by_cases hc : (decide ((bt s p % 8) * 262144 + (bt s (p + 1) % 64) * 4096 + (bt s (p + 2) % 64) * 64 + bt s (p + 3) % 64 ≥ 0x10000) && okc ((bt s p % 8) * 262144 + (bt s (p + 1) % 64) * 4096 + (bt s (p + 2) % 64) * 64 + bt s (p + 3) % 64)) = true
          · simp only [if_pos hc] at h2; exact ctb_cut (by omega)
          · simp only [if_neg hc] at h2; omega
        have h9 : (bt s p / 32 == 6) = false := by rw [beq_eq_false_iff_ne]; omega
        have h10 : (bt s p / 16 == 14) = false := by rw [beq_eq_false_iff_ne]; omega
        simp only [c1, h9, h10, Bool.and_false, Bool.false_and, Bool.false_eq_true, if_false]
      · rw [if_neg e3] at h2; simp only at h2; omega
theorem take_drop' (s : Str) (k w : Nat) : (s.take k).drop w = (s.drop w).take (k - w) := List.drop_take ..
/-- A run is the same wherever the text is cut behind it. -/
theorem runS_take (p : Int → Bool) (hp : p 65533 = false) : ∀ (n : Nat) (s : Str) (k : Nat), s.length = n → runS p s ≤ k → runS p (s.take k) = runS p s := by
  intro n
  induction n using Nat.strongRecOn with
  | _ n ih =>
    intro s k hn hk
    by_cases hs : s.length = 0
    · rw [runS_nil hs, runS_nil (by rw [List.length_take]; omega)]
    · have hw := dec_width s 0
      cases h : p (dec s 0).1 with
      | true =>
        rw [runS_yes hs h] at hk ⊢
        have hd : dec (s.take k) 0 = dec s 0 := dec_take (by omega)
        rw [runS_yes (by rw [List.length_take]; omega) (by rw [hd]; exact h), hd, take_drop', ih (s.drop (dec s 0).2).length (by simp; omega) _ _ rfl (by omega)]
      | false =>
        rw [runS_no h]
        by_cases h0 : k = 0
        · subst h0; exact runS_nil (by simp)
        · refine runS_no ?_
          by_cases e : (dec s 0).2 ≤ k
          · rw [dec_take (by omega)]; exact h
          · rw [dec_cut (by omega) (by omega)]; exact hp
/-- A place at which a character begins, or the end. -/
inductive Bd : Str → Nat → Prop
  | zero (s) : Bd s 0
  | step {s a} (hs : s.length ≠ 0) (h : Bd (s.drop (dec s 0).2) a) : Bd s ((dec s 0).2 + a)
theorem Bd.le {s : Str} {a : Nat} (h : Bd s a) : a ≤ s.length := by
  induction h with
  | zero => omega
  | @step s a hs h ih => have := dec_fits (s := s) (p := 0) (by omega); rw [List.length_drop] at ih; omega
theorem Bd.trans {s : Str} {a b : Nat} (h : Bd s a) (h2 : Bd (s.drop a) b) : Bd s (a + b) := by
  induction h with
  | zero => simpa using h2
  | step hs h ih =>
    rw [Nat.add_assoc]
    exact .step hs (ih (by rwa [List.drop_drop]))
theorem Bd.take {s : Str} {b a : Nat} (h : Bd s b) (hb : b ≤ a) : Bd (s.take a) b := by
  induction h generalizing a with
  | zero => exact .zero _
  | @step s b hs h ih =>
    have hd : dec (s.take a) 0 = dec s 0 := dec_take (by omega)
    have hw := dec_width s 0
    have := Bd.step (s := s.take a) (a := b) (by rw [List.length_take]; omega) (by rw [hd, take_drop']; exact ih (by omega))
    rwa [hd] at this
theorem chS_split {s : Str} {a : Nat} (h : Bd s a) : chS s = chS (s.take a) + chS (s.drop a) := by
  induction h with
  | zero s => rw [List.take_zero, chS_nil (s := []) rfl, List.drop_zero, Nat.zero_add]
  | @step s a hs h ih =>
    have hd : dec (s.take ((dec s 0).2 + a)) 0 = dec s 0 := dec_take (by omega)
    have hw := dec_width s 0
    rw [chS_step hs, chS_step (s := s.take ((dec s 0).2 + a)) (by rw [List.length_take]; omega), hd, take_drop', Nat.add_sub_cancel_left, ih, List.drop_drop]
    omega
theorem bd_run (p : Int → Bool) : ∀ (n : Nat) (s : Str), s.length = n → Bd s (runS p s) := by
  intro n
  induction n using Nat.strongRecOn with
  | _ n ih =>
    intro s hn
    by_cases hs : s.length = 0
    · rw [runS_nil hs]; exact .zero _
    · have hw := dec_width s 0
      cases h : p (dec s 0).1 with
      | false => rw [runS_no h]; exact .zero _
      | true => rw [runS_yes hs h]; exact .step hs (ih _ (by simp; omega) _ rfl)
theorem bd_ascii : ∀ {t s : Str}, t.isPrefixOf s = true → (∀ c ∈ t, c.toNat < 128) → Bd s t.length
  | [], s, _, _ => .zero _
  | c :: t, [], h, _ => by simp [List.isPrefixOf] at h
  | c :: t, c' :: s, h, hc => by
    simp only [List.isPrefixOf, Bool.and_eq_true, beq_iff_eq] at h
    obtain ⟨rfl, h⟩ := h
    have hd : dec (c :: s) 0 = (bt (c :: s) 0, 1) := dec_ascii (hc c (by simp))
    have := Bd.step (s := c :: s) (a := t.length) (by simp) (by rw [hd]; exact bd_ascii h fun x hx => hc x (by simp [hx]))
    rw [hd] at this
    rw [List.length_cons, Nat.add_comm]
    exact this

end Tab

/- A word of a text hangs on its own bytes: plain. -/
namespace Tab
open Go
set_option maxRecDepth 10000
set_option linter.unusedVariables false
set_option linter.unusedSimpArgs false
set_option linter.unusedSectionVars false

theorem blank_run : digR 32 = false ∧ restR 32 = false ∧ digR 65533 = false ∧ restR 65533 = false ∧ blankR 65533 = false := by
  refine ⟨by decide, ?_, by decide, ?_, by decide⟩
  · unfold restR startR; decide
  · unfold restR startR; decide
theorem start_rest {r : Int} (h : startR r = true) : restR r = true := by unfold restR; rw [h]; rfl
theorem dec_join {x y : Str} (hx : x.length ≠ 0) : dec (x ++ 32 :: y) 0 = dec x 0 := by
  have hb : bt (x ++ 32 :: y) x.length < 128 := by simp [bt]
  have hs := dec_stop (s := x ++ 32 :: y) (m := x.length) (p := 0) (by omega) hb
  have := dec_take (s := x ++ 32 :: y) (m := x.length) (p := 0) hs
  rw [List.take_left] at this
  exact this.symm
theorem run_join (p : Int → Bool) (hp : p 32 = false) (y : Str) : ∀ (n : Nat) (x : Str), x.length = n → runS p (x ++ 32 :: y) = runS p x := by
  intro n
  induction n using Nat.strongRecOn with
  | _ n ih =>
    intro x hn
    by_cases hs : x.length = 0
    · have : x = [] := List.length_eq_zero_iff.1 hs
      subst this
      rw [runS_nil (s := ([] : Str)) rfl]
      exact runS_no (by rw [List.nil_append, dec_ascii (by simp [bt])]; simpa [bt] using hp)
    · have hd := dec_join (y := y) hs
      have hw := dec_width x 0
      have hf := dec_fits (s := x) (p := 0) (by omega)
      cases h : p (dec x 0).1 with
      | false => rw [runS_no h, runS_no (by rw [hd]; exact h)]
      | true => rw [runS_yes hs h, runS_yes (by simp) (by rw [hd]; exact h), hd, List.drop_append_of_le_length (by omega), ih _ (by simp; omega) _ rfl]
theorem pre_join {t : Str} (ht : (32 : UInt8) ∉ t) (y : Str) : ∀ (x : Str), t.isPrefixOf (x ++ 32 :: y) = t.isPrefixOf x := by
  induction t with
  | nil => intro x; simp [List.isPrefixOf]
  | cons c t ih =>
    intro x
    cases x with
    | nil =>
      have : (c == 32) = false := by rw [beq_eq_false_iff_ne]; intro e; exact ht (by simp [e])
      simp [List.isPrefixOf, this]
    | cons d x =>
      simp only [List.cons_append, List.isPrefixOf]
      rw [ih (fun h => ht (by simp [h]))]
theorem find_congr {α : Type} {f g : α → Bool} : ∀ {l : List α}, (∀ a ∈ l, f a = g a) → l.find? f = l.find? g
  | [], _ => rfl
  | a :: l, h => by
    rw [List.find?_cons, List.find?_cons, h a (by simp), find_congr fun b hb => h b (by simp [hb])]
theorem sign_chars : ∀ t ∈ signL, (32 : UInt8) ∉ t ∧ (∀ c ∈ t, c.toNat < 128) ∧ t ≠ [] := by decide
theorem signT_join (x y : Str) : signT (x ++ 32 :: y) = signT x := by
  rw [signT, signT, find_congr (g := fun t => t.isPrefixOf x) fun t ht => pre_join (sign_chars t ht).1 y x]
theorem tok_join {x : Str} (hx : x.length ≠ 0) (y : Str) : tokS (x ++ 32 :: y) = tokS x := by
  have hr := run_join restR blank_run.2.1 y _ x rfl
  have hg := run_join digR blank_run.1 y _ x rfl
  have l1 := runS_le restR _ x rfl
  have l2 := runS_le digR _ x rfl
  rw [tokS, tokS, dec_join hx, hr, hg, List.take_append_of_le_length l1, List.take_append_of_le_length l2, signT_join]

theorem pre_take {t : Str} : ∀ {x : Str} {k : Nat}, t.length ≤ k → t.isPrefixOf (x.take k) = t.isPrefixOf x := by
  induction t with
  | nil => intro x k _; simp [List.isPrefixOf]
  | cons c t ih =>
    intro x k hk
    cases x with
    | nil => simp
    | cons d x =>
      obtain ⟨j, rfl⟩ : ∃ j, k = j + 1 := ⟨k - 1, by simp at hk; omega⟩
      simp only [List.take_succ_cons, List.isPrefixOf]
      rw [ih (by simp at hk; omega)]
theorem pre_of_take {t : Str} : ∀ {x : Str} {k : Nat}, t.isPrefixOf (x.take k) = true → t.isPrefixOf x = true := by
  induction t with
  | nil => intro x k _; simp [List.isPrefixOf]
  | cons c t ih =>
    intro x k h
    cases x with
    | nil => simp at h
    | cons d x =>
      cases k with
      | zero => simp [List.isPrefixOf] at h
      | succ k =>
        simp only [List.take_succ_cons, List.isPrefixOf, Bool.and_eq_true] at h ⊢
        exact ⟨h.1, ih h.2⟩
theorem find_take {x : Str} {k : Nat} : ∀ {l : List Str} {t : Str}, (l.find? fun t => t.isPrefixOf x) = some t → t.length ≤ k → (l.find? fun t => t.isPrefixOf (x.take k)) = some t
  | [], _, h, _ => by simp at h
  | a :: l, t, h, hk => by
    rw [List.find?_cons] at h ⊢
    cases ha : a.isPrefixOf x with
    | true =>
      simp only [ha] at h
      cases h
      simp only [pre_take hk, ha]
    | false =>
      simp only [ha] at h
      cases hb : a.isPrefixOf (x.take k) with
      | true => rw [pre_of_take hb] at ha; cases ha
      | false => simp only [hb]; exact find_take h hk
theorem sign_ok {x : Str} (h : (signT x).err = 0) : ∃ t ∈ signL, t.isPrefixOf x = true ∧ signT x = ⟨2, t, 0, t.length, 0⟩ ∧ (signL.find? fun t => t.isPrefixOf x) = some t := by
  rw [signT] at h ⊢
  cases e : (signL.find? fun t => t.isPrefixOf x) with
  | none => rw [e] at h; simp [tokBad] at h
  | some t => exact ⟨t, List.mem_of_find?_eq_some e, List.find?_some (p := fun t : Str => t.isPrefixOf x) e, rfl, rfl⟩
theorem run_first {p : Int → Bool} {x : Str} (hx : x.length ≠ 0) (h : p (dec x 0).1 = true) : (dec x 0).2 ≤ runS p x := by rw [runS_yes hx h]; omega
theorem nameT_n (t : Str) (n : Nat) : (nameT t n).n = n := by rw [nameT]; split; rfl; split <;> rfl
/-- A word's bytes are whole characters, and the word is the same wherever the text is cut behind it. -/
theorem tok_cut {x : Str} (hx : x.length ≠ 0) (h : (tokS x).err = 0) : Bd x (tokS x).n ∧ 1 ≤ (tokS x).n ∧ ∀ k, (tokS x).n ≤ k → tokS (x.take k) = tokS x := by
  have hw := dec_width x 0
  rw [tokS] at h ⊢
  by_cases h1 : (dec x 0).1 = 65533 ∧ (dec x 0).2 ≤ 1
  · rw [if_pos h1] at h; simp [tokBad] at h
  rw [if_neg h1] at h ⊢
  by_cases h2 : startR (dec x 0).1 = true
  · rw [if_pos h2] at h ⊢
    rw [nameT_n]
    have hf := run_first hx (start_rest h2)
    refine ⟨bd_run restR _ x rfl, by omega, fun k hk => ?_⟩
    rw [tokS, dec_take (by omega), if_neg h1, if_pos h2, runS_take restR blank_run.2.2.2.1 _ x k rfl hk, List.take_take, Nat.min_eq_left hk]
  rw [if_neg h2] at h ⊢
  by_cases h3 : digR (dec x 0).1 = true
  · rw [if_pos h3] at h ⊢
    have hf := run_first hx h3
    cases e : numS (x.take (runS digR x)) with
    | none => rw [e] at h; simp [tokBad] at h
    | some v =>
      simp only
      refine ⟨bd_run digR _ x rfl, by omega, fun k hk => ?_⟩
      rw [tokS, dec_take (by omega), if_neg h1, if_neg h2, if_pos h3, runS_take digR blank_run.2.2.1 _ x k rfl hk, List.take_take, Nat.min_eq_left hk, e]
  rw [if_neg h3] at h ⊢
  by_cases h4 : plainS (dec x 0).1 ≠ []
  · rw [if_pos h4]
    refine ⟨.step (a := 0) hx (.zero _), by simp only; omega, fun k hk => ?_⟩
    simp only at hk
    rw [tokS, dec_take (by omega), if_neg h1, if_neg h2, if_neg h3, if_pos h4]
  rw [if_neg h4] at h ⊢
  obtain ⟨t, ht, hp, e, hf⟩ := sign_ok h
  obtain ⟨_, hc, hne⟩ := sign_chars t ht
  rw [e]
  have hl : 1 ≤ t.length := by cases t with | nil => exact absurd rfl hne | cons => simp
  refine ⟨bd_ascii hp hc, hl, fun k hk => ?_⟩
  have hw1 : (dec x 0).2 = 1 := by
    cases t with
    | nil => exact absurd rfl hne
    | cons c t =>
      cases x with
      | nil => simp at hx
      | cons d x =>
        simp only [List.isPrefixOf, Bool.and_eq_true, beq_iff_eq] at hp
        have : bt (d :: x) 0 < 128 := by rw [← hp.1]; exact hc c (by simp)
        rw [dec_ascii this]
  simp only at hk
  rw [tokS, dec_take (by omega), if_neg h1, if_neg h2, if_neg h3, if_neg h4, signT, find_take hf hk]

end Tab

/- The words of a text from a place on: plain. -/
namespace Tab
open Go
set_option maxRecDepth 10000
set_option linter.unusedVariables false
set_option linter.unusedSimpArgs false
set_option linter.unusedSectionVars false

def lexQ : Nat → Str → Nat → Nat → List Wd × Flt
  | 0, _, _, _ => ([], flt0)
  | f + 1, x, a, ch => if (x.drop (runS blankR x)).length = 0 then ([], flt0)
    else if (tokS (x.drop (runS blankR x))).err ≠ 0 then ([], ⟨(tokS (x.drop (runS blankR x))).err, a + runS blankR x, ch + chS (x.take (runS blankR x))⟩)
    else (⟨(tokS (x.drop (runS blankR x))).kind, (tokS (x.drop (runS blankR x))).text, (tokS (x.drop (runS blankR x))).num, a + runS blankR x, ch + chS (x.take (runS blankR x))⟩ ::
        (lexQ f ((x.drop (runS blankR x)).drop (tokS (x.drop (runS blankR x))).n) (a + runS blankR x + (tokS (x.drop (runS blankR x))).n) (ch + chS (x.take (runS blankR x)) + chS ((x.drop (runS blankR x)).take (tokS (x.drop (runS blankR x))).n))).1,
      (lexQ f ((x.drop (runS blankR x)).drop (tokS (x.drop (runS blankR x))).n) (a + runS blankR x + (tokS (x.drop (runS blankR x))).n) (ch + chS (x.take (runS blankR x)) + chS ((x.drop (runS blankR x)).take (tokS (x.drop (runS blankR x))).n))).2)
theorem lexQ_fuel : ∀ (f g : Nat) (x : Str) (a ch : Nat), x.length < f → x.length < g → lexQ f x a ch = lexQ g x a ch
  | 0, _, _, _, _, h, _ => by omega
  | _, 0, _, _, _, _, h => by omega
  | f + 1, g + 1, x, a, ch, h1, h2 => by
    rw [lexQ, lexQ]
    by_cases e0 : (x.drop (runS blankR x)).length = 0
    · rw [if_pos e0, if_pos e0]
    rw [if_neg e0, if_neg e0]
    by_cases e1 : (tokS (x.drop (runS blankR x))).err ≠ 0
    · rw [if_pos e1, if_pos e1]
    rw [if_neg e1, if_neg e1]
    have hc := (tok_cut e0 (Decidable.of_not_not e1)).2.1
    rw [lexQ_fuel f g _ _ _ (by simp at *; omega) (by simp at *; omega)]
def lexW (x : Str) (a ch : Nat) : List Wd × Flt := lexQ (x.length + 1) x a ch
/-- What a text is made of: blanks, a word, the rest. -/
structure Part (x : Str) (b : Nat) (x1 : Str) (t : Tok) : Prop where
  run : runS blankR x = b
  rest : x.drop b = x1
  some : x1.length ≠ 0
  tok : tokS x1 = t
theorem part_of (x : Str) : (runS blankR x = x.length) ∨ Part x (runS blankR x) (x.drop (runS blankR x)) (tokS (x.drop (runS blankR x))) := by
  have := runS_le blankR _ x rfl
  by_cases h : runS blankR x = x.length
  · exact .inl h
  · exact .inr ⟨rfl, rfl, by rw [List.length_drop]; omega, rfl⟩
theorem lexW_nil {x : Str} (h : runS blankR x = x.length) (a ch : Nat) : lexW x a ch = ([], flt0) := by
  rw [lexW, lexQ, if_pos (by rw [List.length_drop]; omega)]
theorem lexW_bad {x : Str} {b x1 t} (h : Part x b x1 t) (he : t.err ≠ 0) (a ch : Nat) : lexW x a ch = ([], ⟨t.err, a + b, ch + chS (x.take b)⟩) := by
  obtain ⟨rfl, rfl, h3, rfl⟩ := h
  rw [lexW, lexQ, if_neg h3, if_pos he]
theorem lexW_tok {x : Str} {b x1 t} (h : Part x b x1 t) (he : t.err = 0) (a ch : Nat) : lexW x a ch =
    (⟨t.kind, t.text, t.num, a + b, ch + chS (x.take b)⟩ :: (lexW (x1.drop t.n) (a + b + t.n) (ch + chS (x.take b) + chS (x1.take t.n))).1, (lexW (x1.drop t.n) (a + b + t.n) (ch + chS (x.take b) + chS (x1.take t.n))).2) := by
  obtain ⟨rfl, rfl, h3, rfl⟩ := h
  have hc := (tok_cut h3 he).2.1
  rw [lexW, lexQ, if_neg h3, if_neg (by rw [he]; simp)]
  rw [lexQ_fuel x.length _ _ _ _ (by simp at *; omega) (Nat.lt_succ_self _)]
  rfl
theorem Part.bd {x : Str} {b x1 t} (h : Part x b x1 t) : Bd x b := by obtain ⟨rfl, _⟩ := h; exact bd_run blankR _ x rfl
theorem Part.lt {x : Str} {b x1 t} (h : Part x b x1 t) : b < x.length ∧ x1.length = x.length - b := by
  obtain ⟨rfl, rfl, h3, _⟩ := h
  rw [List.length_drop] at h3 ⊢
  omega
theorem Part.tokN {x : Str} {b x1 t} (h : Part x b x1 t) (he : t.err = 0) : Bd x1 t.n ∧ 1 ≤ t.n ∧ t.n ≤ x1.length ∧ ∀ k, t.n ≤ k → tokS (x1.take k) = t := by
  obtain ⟨rfl, rfl, h3, rfl⟩ := h
  obtain ⟨k1, k2, k3⟩ := tok_cut h3 he
  exact ⟨k1, k2, k1.le, k3⟩
/-- The last characters of a text, cut off, are counted by themselves. -/
theorem chS_cut {s : Str} {a b : Nat} (h1 : Bd s a) (h2 : a ≤ b) : chS (s.take b) = chS (s.take a) + chS ((s.drop a).take (b - a)) := by
  have h := chS_split (h1.take h2)
  rwa [List.take_take, Nat.min_eq_left h2, take_drop'] at h

def finL (r : List Wd × Flt) : List Wd × Flt := if r.2.why ≠ 0 then ([], r.2) else r
theorem lexL_eq (s : Str) : ∀ (f a ch ct : Nat), s.length < f + a → a ≤ s.length → Bd s a → Bd s ct → ct ≤ a → ch = chS (s.take ct) →
    lexL s f (a + runS blankR (s.drop a)) ch ct = finL (lexW (s.drop a) a (chS (s.take a)))
  | 0, a, ch, ct, hf, ha, _, _, _, _ => by omega
  | f + 1, a, ch, ct, hf, ha, hb, hbc, hca, hch => by
    rcases part_of (s.drop a) with h | h
    · rw [lexW_nil h, h, lexL, if_pos (by rw [List.length_drop]; omega)]
      rfl
    · have hp := h
      obtain ⟨k1, k2⟩ := h.lt
      rw [List.length_drop] at k1
      generalize hbe : runS blankR (s.drop a) = b at *
      generalize hxe : (s.drop a).drop b = x1 at *
      generalize hte : tokS x1 = t at *
      have hx1 : s.drop (a + b) = x1 := by rw [← hxe, List.drop_drop]
      have hcut : chS (s.take (a + b)) = chS (s.take a) + chS ((s.drop a).take b) := by
        have := chS_cut hb (show a ≤ a + b by omega)
        rwa [Nat.add_sub_cancel_left] at this
      have hc : ch + chS ((s.take (a + b)).drop ct) = chS (s.take (a + b)) := by
        have := chS_cut hbc (show ct ≤ a + b by omega)
        rw [take_drop', hch, this]
      rw [lexL, if_neg (by omega)]
      simp only [hc, hx1, hte]
      by_cases he : t.err = 0
      · obtain ⟨n1, n2, n3, _⟩ := hp.tokN he
        have hb2 : Bd s (a + b) := hb.trans hp.bd
        have hb3 : Bd s (a + b + t.n) := hb2.trans (by rw [hx1]; exact n1)
        have hn := hb3.le
        have hx2 : s.drop (a + b + t.n) = x1.drop t.n := by rw [← hx1, List.drop_drop]
        have hcut2 : chS (s.take (a + b + t.n)) = chS (s.take (a + b)) + chS (x1.take t.n) := by
          have := chS_cut hb2 (show a + b ≤ a + b + t.n by omega)
          rwa [Nat.add_sub_cancel_left, hx1] at this
        have ih := lexL_eq s f (a + b + t.n) (chS (s.take (a + b))) (a + b) (by omega) hn hb3 hb2 (by omega) rfl
        rw [lexW_tok hp he, if_neg (by rw [he]; simp), ih, hx2, hcut2, hcut]
        generalize lexW (x1.drop t.n) (a + b + t.n) (chS (s.take a) + chS ((s.drop a).take b) + chS (x1.take t.n)) = r
        rw [finL, finL]
        by_cases hw : r.2.why ≠ 0
        · simp only [if_pos hw]
        · simp only [if_neg hw]
      · rw [lexW_bad hp he, if_pos he, finL, if_pos he, hcut]
theorem lexS_eq (s : Str) : lexS s = if 4096 < s.length then ([], ⟨70, 0, 0⟩) else finL (lexW s 0 0) := by
  rw [lexS]
  split
  · rfl
  · have h := lexL_eq s (s.length + 1) 0 0 0 (by omega) (Nat.zero_le _) (.zero _) (.zero _) (Nat.le_refl _) (by rw [List.take_zero, chS_nil rfl])
    rw [Nat.zero_add, List.drop_zero, List.take_zero, chS_nil (s := []) rfl] at h
    exact h

end Tab

/- Two texts with a blank between: plain. -/
namespace Tab
open Go
set_option maxRecDepth 10000
set_option linter.unusedVariables false
set_option linter.unusedSimpArgs false
set_option linter.unusedSectionVars false

theorem run_cat_all (p : Int → Bool) (y : Str) : ∀ (n : Nat) (x : Str), x.length = n → runS p x = x.length → runS p (x ++ 32 :: y) = x.length + runS p (32 :: y) := by
  intro n
  induction n using Nat.strongRecOn with
  | _ n ih =>
    intro x hn h
    by_cases hs : x.length = 0
    · have : x = [] := List.length_eq_zero_iff.1 hs
      subst this; simp
    · have hd := dec_join (y := y) hs
      have hw := dec_width x 0
      have hf := dec_fits (s := x) (p := 0) (by omega)
      cases hp : p (dec x 0).1 with
      | false => rw [runS_no hp] at h; omega
      | true =>
        rw [runS_yes hs hp] at h
        rw [runS_yes (by simp) (by rw [hd]; exact hp), hd, List.drop_append_of_le_length (by omega), ih _ (by simp; omega) (x.drop (dec x 0).2) rfl (by rw [List.length_drop]; omega), List.length_drop]
        omega
theorem run_cat_stop (p : Int → Bool) (y : Str) : ∀ (n : Nat) (x : Str), x.length = n → runS p x < x.length → runS p (x ++ 32 :: y) = runS p x := by
  intro n
  induction n using Nat.strongRecOn with
  | _ n ih =>
    intro x hn h
    by_cases hs : x.length = 0
    · omega
    · have hd := dec_join (y := y) hs
      have hw := dec_width x 0
      have hf := dec_fits (s := x) (p := 0) (by omega)
      cases hp : p (dec x 0).1 with
      | false => rw [runS_no hp, runS_no (by rw [hd]; exact hp)]
      | true =>
        rw [runS_yes hs hp] at h ⊢
        rw [runS_yes (by simp) (by rw [hd]; exact hp), hd, List.drop_append_of_le_length (by omega), ih _ (by simp; omega) (x.drop (dec x 0).2) rfl (by rw [List.length_drop]; omega)]
theorem bd_end : ∀ (n : Nat) (x : Str), x.length = n → Bd x x.length := by
  intro n
  induction n using Nat.strongRecOn with
  | _ n ih =>
    intro x hn
    by_cases hs : x.length = 0
    · rw [hs]; exact .zero _
    · have hw := dec_width x 0
      have hf := dec_fits (s := x) (p := 0) (by omega)
      have h := Bd.step (s := x) hs (ih _ (by simp; omega) (x.drop (dec x 0).2) rfl)
      rw [List.length_drop] at h
      rwa [show (dec x 0).2 + (x.length - (dec x 0).2) = x.length by omega] at h
theorem Bd.join {x : Str} {b : Nat} (h : Bd x b) (y : Str) : Bd (x ++ 32 :: y) b := by
  induction h with
  | zero => exact .zero _
  | @step x b hs h ih =>
    have hd := dec_join (y := y) hs
    have hf := dec_fits (s := x) (p := 0) (by omega)
    have := Bd.step (s := x ++ 32 :: y) (a := b) (by simp) (by rw [hd, List.drop_append_of_le_length (by omega)]; exact ih)
    rwa [hd] at this
theorem chS_blank (y : Str) : chS (32 :: y) = 1 + chS y := by
  rw [chS_step (by simp), dec_ascii (by simp [bt])]; rfl
theorem lexW_skip {z : Str} {k : Nat} (hb : Bd z k) (hr : runS blankR z = k + runS blankR (z.drop k)) (a ch : Nat) : lexW z a ch = lexW (z.drop k) (a + k) (ch + chS (z.take k)) := by
  have hk := hb.le
  rcases part_of (z.drop k) with h | h
  · rw [lexW_nil h, lexW_nil (by rw [hr, h, List.length_drop]; omega)]
  · have hz : Part z (k + runS blankR (z.drop k)) ((z.drop k).drop (runS blankR (z.drop k))) (tokS ((z.drop k).drop (runS blankR (z.drop k)))) := ⟨hr, by rw [List.drop_drop], h.some, rfl⟩
    generalize runS blankR (z.drop k) = b at *
    have hc : chS (z.take (k + b)) = chS (z.take k) + chS ((z.drop k).take b) := by
      have := chS_cut hb (show k ≤ k + b by omega)
      rwa [Nat.add_sub_cancel_left] at this
    generalize (z.drop k).drop b = x1 at *
    generalize tokS x1 = t at *
    by_cases he : t.err = 0
    · rw [lexW_tok h he, lexW_tok hz he, hc]
      simp only [Nat.add_assoc]
    · rw [lexW_bad h he, lexW_bad hz he, hc]
      simp only [Nat.add_assoc]
theorem Part.join {x : Str} {b x1 t} (h : Part x b x1 t) (y : Str) : Part (x ++ 32 :: y) b (x1 ++ 32 :: y) t := by
  obtain ⟨l1, l2⟩ := h.lt
  obtain ⟨rfl, rfl, h3, rfl⟩ := h
  exact ⟨run_cat_stop blankR y _ x rfl l1, by rw [List.drop_append_of_le_length (by omega)], by simp, tok_join h3 y⟩
theorem lex_join (y : Str) : ∀ (n : Nat) (x : Str), x.length = n → ∀ (a ch : Nat), lexW (x ++ 32 :: y) a ch =
    if (lexW x a ch).2.why ≠ 0 then lexW x a ch else ((lexW x a ch).1 ++ (lexW y (a + x.length + 1) (ch + chS x + 1)).1, (lexW y (a + x.length + 1) (ch + chS x + 1)).2) := by
  intro n
  induction n using Nat.strongRecOn with
  | _ n ih =>
    intro x hn a ch
    rcases part_of x with h | h
    · rw [lexW_nil h, if_neg (by simp [flt0])]
      have hb : Bd (x ++ 32 :: y) (x.length + 1) := by
        have h1 := (bd_end _ x rfl).join y
        have h2 : Bd (32 :: y : Str) 1 := by
          have := Bd.step (s := (32 :: y : Str)) (a := 0) (by simp) (.zero _)
          rwa [dec_ascii (by simp [bt])] at this
        refine h1.trans ?_
        rw [List.drop_left]; exact h2
      have hd : (x ++ 32 :: y).drop (x.length + 1) = y := by rw [List.drop_append]; simp
      have hr : runS blankR (x ++ 32 :: y) = x.length + 1 + runS blankR ((x ++ 32 :: y).drop (x.length + 1)) := by
        rw [run_cat_all blankR y _ x rfl h, hd, runS_yes (s := (32 :: y : Str)) (by simp) (by rw [dec_ascii (by simp [bt])]; simp [bt, blankR]), dec_ascii (by simp [bt])]
        simp only [List.drop_succ_cons, List.drop_zero]
        omega
      have hc : chS ((x ++ 32 :: y).take (x.length + 1)) = chS x + 1 := by
        have hb2 := (bd_end _ x rfl).join y
        have := chS_cut hb2 (show x.length ≤ x.length + 1 by omega)
        rw [this, List.take_left, List.drop_left, Nat.add_sub_cancel_left, List.take_succ_cons, List.take_zero, chS_blank, chS_nil (s := []) rfl]
      rw [lexW_skip hb hr, hd, hc, Nat.add_assoc, Nat.add_assoc]
      rfl
    · have hj := h.join y
      obtain ⟨l1, l2⟩ := h.lt
      generalize hbe : runS blankR x = b at *
      generalize hxe : x.drop b = x1 at *
      generalize hte : tokS x1 = t at *
      have htk : (x ++ 32 :: y).take b = x.take b := List.take_append_of_le_length (by omega)
      by_cases he : t.err = 0
      · obtain ⟨n1, n2, n3, _⟩ := h.tokN he
        have hbx := h.bd
        have hcx : chS x = chS (x.take b) + (chS (x1.take t.n) + chS (x1.drop t.n)) := by
          rw [chS_split hbx, hxe, chS_split n1]
        rw [lexW_tok hj he, lexW_tok h he, htk, List.take_append_of_le_length n3, List.drop_append_of_le_length n3, ih _ (by rw [List.length_drop]; omega) (x1.drop t.n) rfl, List.length_drop]
        generalize lexW (x1.drop t.n) (a + b + t.n) (ch + chS (x.take b) + chS (x1.take t.n)) = r
        rw [show a + b + t.n + (x1.length - t.n) + 1 = a + x.length + 1 by omega, show ch + chS (x.take b) + chS (x1.take t.n) + chS (x1.drop t.n) + 1 = ch + chS x + 1 by omega]
        by_cases hw : r.2.why ≠ 0
        · simp only [if_pos hw]
        · simp only [if_neg hw, List.cons_append]
      · rw [lexW_bad hj he, lexW_bad h he, htk, if_pos he]

end Tab

/- Where words and faults stand: plain. -/
namespace Tab
open Go
set_option maxRecDepth 10000
set_option linter.unusedVariables false
set_option linter.unusedSimpArgs false
set_option linter.unusedSectionVars false

theorem Part.cut {x : Str} {b x1 t} (h : Part x b x1 t) (he : t.err = 0) {k : Nat} (hk : t.n ≤ k) : Part (x.take (b + k)) b (x1.take k) t := by
  obtain ⟨l1, l2⟩ := h.lt
  obtain ⟨n1, n2, n3, n4⟩ := h.tokN he
  obtain ⟨rfl, rfl, h3, rfl⟩ := h
  exact ⟨runS_take blankR blank_run.2.2.2.2 _ x _ rfl (by omega), by rw [take_drop', Nat.add_sub_cancel_left], by rw [List.length_take]; omega, n4 k hk⟩
/-- A fault's place; what stands ahead of it has none. -/
theorem lex_cut : ∀ (n : Nat) (x : Str), x.length = n → ∀ (a ch : Nat), (lexW x a ch).2.why ≠ 0 →
    ∃ k, k < x.length ∧ Bd x k ∧ (lexW x a ch).2.at' = a + k ∧ (lexW x a ch).2.ch = ch + chS (x.take k) ∧ lexW (x.take k) a ch = ((lexW x a ch).1, flt0) := by
  intro n
  induction n using Nat.strongRecOn with
  | _ n ih =>
    intro x hn a ch hw
    rcases part_of x with h | h
    · rw [lexW_nil h] at hw; exact absurd rfl hw
    · obtain ⟨l1, l2⟩ := h.lt
      have hbx := h.bd
      generalize hbe : runS blankR x = b at *
      generalize hxe : x.drop b = x1 at *
      generalize hte : tokS x1 = t at *
      by_cases he : t.err = 0
      · obtain ⟨n1, n2, n3, _⟩ := h.tokN he
        rw [lexW_tok h he] at hw ⊢
        simp only at hw ⊢
        obtain ⟨k, k1, k2, k3, k4, k5⟩ := ih _ (by rw [List.length_drop]; omega) (x1.drop t.n) rfl (a + b + t.n) (ch + chS (x.take b) + chS (x1.take t.n)) hw
        rw [List.length_drop] at k1
        have hp := h.cut he (k := t.n + k) (by omega)
        have hcx : chS (x.take (b + (t.n + k))) = chS (x.take b) + (chS (x1.take t.n) + chS ((x1.drop t.n).take k)) := by
          have e1 := chS_cut hbx (show b ≤ b + (t.n + k) by omega)
          have e2 := chS_cut n1 (show t.n ≤ t.n + k by omega)
          rw [Nat.add_sub_cancel_left, hxe] at e1
          rw [Nat.add_sub_cancel_left] at e2
          rw [e1, e2]
        refine ⟨b + (t.n + k), by omega, hbx.trans (by rw [hxe]; exact n1.trans k2), by rw [k3]; omega, by rw [k4, hcx]; omega, ?_⟩
        have t1 : (x.take (b + (t.n + k))).take b = x.take b := by rw [List.take_take, Nat.min_eq_left (by omega)]
        have t2 : (x1.take (t.n + k)).take t.n = x1.take t.n := by rw [List.take_take, Nat.min_eq_left (by omega)]
        have t3 : (x1.take (t.n + k)).drop t.n = (x1.drop t.n).take k := by rw [take_drop', Nat.add_sub_cancel_left]
        rw [lexW_tok hp he, t1, t2, t3, k5]
      · rw [lexW_bad h he]
        refine ⟨b, l1, hbx, rfl, rfl, ?_⟩
        rw [lexW_nil]
        rw [runS_take blankR blank_run.2.2.2.2 _ x b rfl (by omega), hbe, List.length_take]
        omega
/-- Bytes that are blanks. -/
def blB (c : UInt8) : Bool := blankR (c.toNat : Nat)
theorem dec_blank {x : Str} (h : blankR (dec x 0).1 = true) : bt x 0 < 128 ∧ dec x 0 = (bt x 0, 1) := by
  have h1 : (dec x 0).1 < 128 := by
    simp only [blankR, Bool.or_eq_true, decide_eq_true_eq] at h
    omega
  have h2 := dec_small h1
  exact ⟨h2, dec_ascii h2⟩
theorem run_blank : ∀ (n : Nat) (x : Str), x.length = n → ∀ i, i < runS blankR x → blB (x.getD i 0) = true := by
  intro n
  induction n using Nat.strongRecOn with
  | _ n ih =>
    intro x hn i hi
    by_cases hs : x.length = 0
    · rw [runS_nil hs] at hi; omega
    · cases hp : blankR (dec x 0).1 with
      | false => rw [runS_no hp] at hi; omega
      | true =>
        obtain ⟨h1, h2⟩ := dec_blank hp
        rw [runS_yes hs hp, h2] at hi
        rw [h2] at hp
        cases i with
        | zero => exact hp
        | succ i =>
          have := ih _ (by simp; omega) (x.drop 1) rfl i (by simp only at hi; omega)
          rw [List.getD_eq_getElem?_getD, List.getElem?_drop, Nat.add_comm] at this
          rw [List.getD_eq_getElem?_getD]; exact this
theorem run_end : ∀ (n : Nat) (x : Str), x.length = n → runS blankR x < x.length → blB (x.getD (runS blankR x) 0) = false := by
  intro n
  induction n using Nat.strongRecOn with
  | _ n ih =>
    intro x hn hi
    have hs : x.length ≠ 0 := by omega
    cases hp : blankR (dec x 0).1 with
    | false =>
      rw [runS_no hp]
      cases hb : blB (x.getD 0 0) with
      | false => rfl
      | true =>
        have h1 : bt x 0 < 128 := by
          have hb : blankR ((bt x 0 : Nat) : Int) = true := hb
          simp only [blankR, Bool.or_eq_true, decide_eq_true_eq] at hb
          omega
        rw [dec_ascii h1] at hp
        rw [show blB (x.getD 0 0) = blankR ((bt x 0 : Nat) : Int) from rfl, hp] at hb
        cases hb
    | true =>
      obtain ⟨h1, h2⟩ := dec_blank hp
      rw [runS_yes hs hp, h2] at hi ⊢
      simp only at hi ⊢
      have := ih _ (by simp; omega) (x.drop 1) rfl (by simp only [List.length_drop]; omega)
      rw [List.getD_eq_getElem?_getD, List.getElem?_drop] at this
      rw [List.getD_eq_getElem?_getD]; exact this
/-- Where a word stands. -/
def PlOk (x : Str) (a ch : Nat) (w : Wd) : Prop := ∃ k, k < x.length ∧ Bd x k ∧ w.at' = a + k ∧ w.ch = ch + chS (x.take k) ∧ blB (x.getD k 0) = false
theorem lex_places : ∀ (n : Nat) (x : Str), x.length = n → ∀ (a ch : Nat), (∀ w ∈ (lexW x a ch).1, PlOk x a ch w) ∧ (lexW x a ch).1.Pairwise (fun v w => v.at' < w.at') ∧
    ((lexW x a ch).2.why = 0 → (∀ i, i < x.length → (∀ w ∈ (lexW x a ch).1.head?, a + i < w.at') → blB (x.getD i 0) = true)) := by
  intro n
  induction n using Nat.strongRecOn with
  | _ n ih =>
    intro x hn a ch
    rcases part_of x with h | h
    · rw [lexW_nil h]
      exact ⟨by simp, List.Pairwise.nil, fun _ i hi _ => run_blank _ x rfl i (by omega)⟩
    · obtain ⟨l1, l2⟩ := h.lt
      have hbx := h.bd
      have hend := run_end _ x rfl
      have hbl := run_blank _ x rfl
      generalize hbe : runS blankR x = b at *
      generalize hxe : x.drop b = x1 at *
      generalize hte : tokS x1 = t at *
      by_cases he : t.err = 0
      · obtain ⟨n1, n2, n3, _⟩ := h.tokN he
        obtain ⟨i1, i2, _⟩ := ih _ (by rw [List.length_drop]; omega) (x1.drop t.n) rfl (a + b + t.n) (ch + chS (x.take b) + chS (x1.take t.n))
        rw [lexW_tok h he]
        have hpl : ∀ w, PlOk (x1.drop t.n) (a + b + t.n) (ch + chS (x.take b) + chS (x1.take t.n)) w → PlOk x a ch w ∧ a + b < w.at' := by
          rintro w ⟨k, k1, k2, k3, k4, k5⟩
          rw [List.length_drop] at k1
          have hcx : chS (x.take (b + (t.n + k))) = chS (x.take b) + (chS (x1.take t.n) + chS ((x1.drop t.n).take k)) := by
            have e1 := chS_cut hbx (show b ≤ b + (t.n + k) by omega)
            have e2 := chS_cut n1 (show t.n ≤ t.n + k by omega)
            rw [Nat.add_sub_cancel_left, hxe] at e1
            rw [Nat.add_sub_cancel_left] at e2
            rw [e1, e2]
          refine ⟨⟨b + (t.n + k), by omega, hbx.trans (by rw [hxe]; exact n1.trans k2), by rw [k3]; omega, by rw [k4, hcx]; omega, ?_⟩, by rw [k3]; omega⟩
          rw [← hxe, List.getD_eq_getElem?_getD, List.getElem?_drop, List.getElem?_drop] at k5
          rw [List.getD_eq_getElem?_getD]; exact k5
        refine ⟨fun w hw => ?_, ?_, fun _ i hi hh => ?_⟩
        · rcases List.mem_cons.1 hw with rfl | hw
          · exact ⟨b, l1, hbx, rfl, rfl, hend l1⟩
          · exact (hpl w (i1 w hw)).1
        · exact List.pairwise_cons.2 ⟨fun w hw => (hpl w (i1 w hw)).2, i2⟩
        · have := hh _ (by simp; rfl)
          exact hbl i (by simp only at this; omega)
      · rw [lexW_bad h he]
        exact ⟨by simp, List.Pairwise.nil, fun h0 => absurd h0 he⟩

end Tab

/- Words written down and read again: plain. -/
namespace Tab
open Go
set_option maxRecDepth 10000
set_option linter.unusedVariables false
set_option linter.unusedSimpArgs false
set_option linter.unusedSectionVars false

/-- A number's digits. -/
def dgL (n : Nat) : Str := if h : n ≤ 9 then [UInt8.ofNat (48 + n)] else dgL (n / 10) ++ [UInt8.ofNat (48 + n % 10)]
termination_by n
decreasing_by omega
theorem dgL_small {n : Nat} (h : n ≤ 9) : dgL n = [UInt8.ofNat (48 + n)] := by rw [dgL, dif_pos h]
theorem dgL_big {n : Nat} (h : ¬ n ≤ 9) : dgL n = dgL (n / 10) ++ [UInt8.ofNat (48 + n % 10)] := by rw [dgL, dif_neg h]
theorem u8_dig {d : Nat} (h : d ≤ 9) : (UInt8.ofNat (48 + d)).toNat = 48 + d := by show (48 + d) % 256 = 48 + d; omega
theorem numL_app : ∀ (t : Str) (a : Nat) (c : UInt8), numL a (t ++ [c]) = (numL a t).bind fun m => numL m [c]
  | [], a, c => rfl
  | x :: t, a, c => by
    rw [List.cons_append, numL, numL]
    split
    · rfl
    · exact numL_app t _ c
theorem numL_one {m d : Nat} (h : d ≤ 9) (hm : 10 * m + d ≤ 9223372036854775807) : numL m [UInt8.ofNat (48 + d)] = some (10 * m + d) := by
  rw [numL, u8_dig h, Nat.add_sub_cancel_left, if_neg (by omega)]; rfl
theorem numS_dg : ∀ (n : Nat), n ≤ 9223372036854775807 → numS (dgL n) = some n := by
  intro n
  induction n using Nat.strongRecOn with
  | _ n ih =>
    intro hn
    by_cases h : n ≤ 9
    · rw [dgL_small h, numS, numL_one h (by omega)]; congr 1; omega
    · have h1 := ih (n / 10) (by omega) (by omega)
      rw [numS] at h1
      rw [dgL_big h, numS, numL_app, h1]
      show numL (n / 10) _ = _
      rw [numL_one (by omega) (by omega)]; congr 1; omega
theorem dg_chars : ∀ (n : Nat), ∀ c ∈ dgL n, 48 ≤ c.toNat ∧ c.toNat ≤ 57 := by
  intro n
  induction n using Nat.strongRecOn with
  | _ n ih =>
    intro c hc
    by_cases h : n ≤ 9
    · rw [dgL_small h] at hc
      rw [List.mem_singleton.1 hc, u8_dig h]; omega
    · rw [dgL_big h] at hc
      rcases List.mem_append.1 hc with hc | hc
      · exact ih _ (by omega) c hc
      · rw [List.mem_singleton.1 hc, u8_dig (by omega)]; omega
theorem dg_ne (n : Nat) : dgL n ≠ [] := by
  by_cases h : n ≤ 9
  · rw [dgL_small h]; simp
  · rw [dgL_big h]; simp
theorem run_all (p : Int → Bool) : ∀ (z : Str), (∀ c ∈ z, c.toNat < 128 ∧ p (c.toNat : Nat) = true) → runS p z = z.length
  | [], _ => runS_nil rfl
  | c :: z, h => by
    have hd : dec (c :: z) 0 = (c.toNat, 1) := dec_ascii (h c (by simp)).1
    rw [runS_yes (by simp) (by rw [hd]; exact (h c (by simp)).2), hd]
    show 1 + runS p z = _
    rw [run_all p z fun x hx => h x (by simp [hx]), List.length_cons]; omega
theorem dig_no {r : Nat} (h1 : 48 ≤ r) (h2 : r ≤ 57) : startR (r : Int) = false ∧ digR (r : Int) = true := by
  constructor
  · unfold startR; simp; omega
  · simp [digR]; omega
theorem tok_dg {n : Nat} (hn : n ≤ 9223372036854775807) : tokS (dgL n) = ⟨1, [], n, (dgL n).length, 0⟩ := by
  have hc := dg_chars n
  have hr := run_all digR (dgL n) fun c h => ⟨by have := hc c h; omega, (dig_no (hc c h).1 (hc c h).2).2⟩
  have hs := numS_dg n hn
  cases e : dgL n with
  | nil => exact absurd e (dg_ne n)
  | cons c z =>
    rw [e] at hc hr hs
    obtain ⟨h1, h2⟩ := hc c (by simp)
    have hd : dec (c :: z) 0 = (c.toNat, 1) := dec_ascii (by show c.toNat < 128; omega)
    obtain ⟨k1, k2⟩ := dig_no h1 h2
    rw [tokS, hd, if_neg (by simp only; omega), if_neg (by simp only; rw [k1]; simp), if_pos (by simpa using k2), hr, List.take_length, hs]
theorem numL_le : ∀ (t : Str) (a v : Nat), a ≤ 9223372036854775807 → (∀ c ∈ t, 48 ≤ c.toNat ∧ c.toNat ≤ 57) → numL a t = some v → v ≤ 9223372036854775807
  | [], a, v, ha, _, h => by rw [numL] at h; cases h; exact ha
  | c :: t, a, v, ha, hc, h => by
    rw [numL] at h
    split at h
    · cases h
    · rename_i hn
      have := hc c (by simp)
      exact numL_le t _ v (by omega) (fun x hx => hc x (by simp [hx])) h
theorem run_chars (p : Int → Bool) (hp : ∀ r : Nat, p r = true → r < 128) : ∀ (n : Nat) (x : Str), x.length = n → ∀ c ∈ x.take (runS p x), p (c.toNat : Nat) = true := by
  intro n
  induction n using Nat.strongRecOn with
  | _ n ih =>
    intro x hn c hc
    by_cases hs : x.length = 0
    · rw [runS_nil hs] at hc; simp at hc
    · cases h : p (dec x 0).1 with
      | false => rw [runS_no h] at hc; simp at hc
      | true =>
        have h1 := dec_ascii (dec_small (s := x) (p := 0) (hp _ h))
        cases x with
        | nil => simp at hs
        | cons d x =>
          rw [runS_yes hs h, h1] at hc
          rw [h1] at h
          simp only [List.drop_succ_cons, List.drop_zero] at hc
          rw [Nat.add_comm, List.take_succ_cons] at hc
          rcases List.mem_cons.1 hc with rfl | hc
          · exact h
          · exact ih _ (by rw [← hn]; simp) x rfl c hc
def wordsAll : List Str := signL ++ plainT.map (·.2) ++ resWords
theorem tok_words : (wordsAll.all fun t => decide ((tokS t).kind = 2) && decide ((tokS t).text = t) && decide ((tokS t).num = 0) && decide ((tokS t).n = t.length) && decide ((tokS t).err = 0) && decide (t.length ≠ 0)) = true := by kernel_rfl
theorem tok_word {t : Str} (h : t ∈ wordsAll) : tokS t = ⟨2, t, 0, t.length, 0⟩ ∧ t.length ≠ 0 := by
  have := List.all_eq_true.1 tok_words t h
  simp only [Bool.and_eq_true, decide_eq_true_eq] at this
  obtain ⟨⟨⟨⟨⟨h1, h2⟩, h3⟩, h4⟩, h5⟩, h6⟩ := this
  refine ⟨?_, h6⟩
  generalize tokS t = u at *
  cases u
  simp only at *
  subst h1 h2 h3 h4 h5
  rfl
theorem plain_mem {r : Int} (h : plainS r ≠ []) : plainS r ∈ plainT.map (·.2) := by
  rw [plainS] at h ⊢
  cases e : plainT.find? fun p => decide (r = p.1) with
  | none => rw [e] at h; exact absurd rfl h
  | some p =>
    rw [e] at h
    exact List.mem_map.2 ⟨p, List.mem_of_find?_eq_some e, rfl⟩
def wrT (k : Int) (t : Str) (v : Nat) : Str := if k = 1 then dgL v else t
theorem nameT_kind (t : Str) (n : Nat) : (nameT t n).kind ≠ 1 ∧ (nameT t n).num = 0 ∧ ((nameT t n).err = 0 → (nameT t n).text = t) := by
  rw [nameT]
  split
  · exact ⟨by simp, rfl, fun _ => rfl⟩
  · split
    · exact ⟨by simp, rfl, fun h => by simp at h⟩
    · exact ⟨by simp, rfl, fun _ => rfl⟩
/-- A word that is written down alone is read as the same word. -/
theorem tok_again {x : Str} (hx : x.length ≠ 0) (h : (tokS x).err = 0) : tokS (wrT (tokS x).kind (tokS x).text (tokS x).num) = ⟨(tokS x).kind, (tokS x).text, (tokS x).num, (wrT (tokS x).kind (tokS x).text (tokS x).num).length, 0⟩ ∧ (wrT (tokS x).kind (tokS x).text (tokS x).num).length ≠ 0 := by
  obtain ⟨hb, hn1, hcut⟩ := tok_cut hx h
  have hle := hb.le
  have hh := hcut _ (Nat.le_refl _)
  have h' := h
  have e0 := tokS.eq_1 x
  by_cases h1 : (dec x 0).1 = 65533 ∧ (dec x 0).2 ≤ 1
  · rw [e0, if_pos h1] at h; simp [tokBad] at h
  rw [if_neg h1] at e0
  by_cases h2 : startR (dec x 0).1 = true
  · rw [if_pos h2] at e0
    obtain ⟨k1, k2, k3⟩ := nameT_kind (x.take (runS restR x)) (runS restR x)
    have kn := nameT_n (x.take (runS restR x)) (runS restR x)
    rw [← e0] at k1 k2 k3 kn
    have k3 := k3 h'
    have hw : wrT (tokS x).kind (tokS x).text (tokS x).num = x.take (tokS x).n := by rw [wrT, if_neg k1, k3, kn]
    rw [hw, hh, List.length_take, Nat.min_eq_left hle]
    refine ⟨?_, by omega⟩
    generalize tokS x = t at *
    cases t
    simp only at *
    subst h'
    rfl
  rw [if_neg h2] at e0
  by_cases h3 : digR (dec x 0).1 = true
  · rw [if_pos h3] at e0
    cases e : numS (x.take (runS digR x)) with
    | none => rw [e] at e0; rw [e0] at h; simp [tokBad] at h
    | some v =>
      rw [e] at e0
      have hv : v ≤ 9223372036854775807 := numL_le _ 0 v (by omega) (fun c hc => by
        have := run_chars digR (fun r hr => by simp [digR] at hr; omega) _ x rfl c hc
        simp [digR] at this; omega) e
      rw [e0]
      show tokS (wrT 1 [] v) = _ ∧ _
      have hw : wrT 1 [] v = dgL v := by rw [wrT, if_pos rfl]
      simp only [hw]
      exact ⟨tok_dg hv, fun e => dg_ne v (List.length_eq_zero_iff.1 e)⟩
  rw [if_neg h3] at e0
  by_cases h4 : plainS (dec x 0).1 ≠ []
  · rw [if_pos h4] at e0
    rw [e0]
    have hw : wrT 2 (plainS (dec x 0).1) 0 = plainS (dec x 0).1 := by rw [wrT, if_neg (by decide)]
    simp only [hw]
    exact tok_word (by rw [wordsAll]; exact List.mem_append_left _ (List.mem_append_right _ (plain_mem h4)))
  rw [if_neg h4] at e0
  rw [e0] at h
  obtain ⟨t, ht, _, es, _⟩ := sign_ok h
  rw [e0, es]
  have hw : wrT 2 t 0 = t := by rw [wrT, if_neg (by decide)]
  simp only [hw]
  exact tok_word (by rw [wordsAll]; exact List.mem_append_left _ (List.mem_append_left _ ht))
theorem tok_noblank {z : Str} (hz : z.length ≠ 0) (h : (tokS z).err = 0) : runS blankR z = 0 := by
  cases hb : blankR (dec z 0).1 with
  | false => exact runS_no hb
  | true =>
    exfalso
    obtain ⟨h1, h2⟩ := dec_blank hb
    have hr : bt z 0 = 32 ∨ bt z 0 = 9 ∨ bt z 0 = 10 ∨ bt z 0 = 13 := by
      rw [h2] at hb
      simp only [blankR, Bool.or_eq_true, decide_eq_true_eq] at hb
      omega
    have hs : signT z = tokBad 51 := by
      rw [signT]
      have : (signL.find? fun t => t.isPrefixOf z) = none := by
        rw [List.find?_eq_none]
        intro t ht hp
        cases z with
        | nil => simp at hz
        | cons c z =>
          have hc : c.toNat = 32 ∨ c.toNat = 9 ∨ c.toNat = 10 ∨ c.toNat = 13 := hr
          have hf : (signL.all fun t => match t with | [] => false | d :: _ => decide (d.toNat ≠ 32) && decide (d.toNat ≠ 9) && decide (d.toNat ≠ 10) && decide (d.toNat ≠ 13)) = true := by kernel_rfl
          have hf := List.all_eq_true.1 hf t ht
          cases t with
          | nil => simp at hf
          | cons d t =>
            simp only [List.isPrefixOf, Bool.and_eq_true, beq_iff_eq] at hp
            obtain ⟨rfl, _⟩ := hp
            simp only [Bool.and_eq_true, decide_eq_true_eq] at hf
            omega
      rw [this]
    rw [tokS, h2] at h
    have k1 : startR ((bt z 0 : Nat) : Int) = false := by unfold startR; rcases hr with e | e | e | e <;> rw [e] <;> decide
    have k2 : digR ((bt z 0 : Nat) : Int) = false := by rcases hr with e | e | e | e <;> rw [e] <;> decide
    have k3 : plainS ((bt z 0 : Nat) : Int) = [] := by rcases hr with e | e | e | e <;> rw [e] <;> decide
    simp only at h
    rw [if_neg (by omega), if_neg (by rw [k1]; simp), if_neg (by rw [k2]; simp), if_neg (by rw [k3]; simp), hs] at h
    simp [tokBad] at h
/-- A word that is read again as it is. -/
def Ag (w : Wd) : Prop := tokS (wrT w.kind w.text w.num) = ⟨w.kind, w.text, w.num, (wrT w.kind w.text w.num).length, 0⟩ ∧ (wrT w.kind w.text w.num).length ≠ 0
theorem lex_ag : ∀ (n : Nat) (x : Str), x.length = n → ∀ (a ch : Nat), ∀ w ∈ (lexW x a ch).1, Ag w := by
  intro n
  induction n using Nat.strongRecOn with
  | _ n ih =>
    intro x hn a ch
    rcases part_of x with h | h
    · rw [lexW_nil h]; simp
    · obtain ⟨l1, l2⟩ := h.lt
      have hx1 := h.some
      generalize hbe : runS blankR x = b at *
      generalize hxe : x.drop b = x1 at *
      generalize hte : tokS x1 = t at *
      by_cases he : t.err = 0
      · obtain ⟨n1, n2, n3, _⟩ := h.tokN he
        rw [lexW_tok h he]
        intro w hw
        rcases List.mem_cons.1 hw with rfl | hw
        · have := tok_again hx1 (by rw [hte]; exact he)
          rw [hte] at this
          exact this
        · exact ih _ (by rw [List.length_drop]; omega) (x1.drop t.n) rfl _ _ w hw
      · rw [lexW_bad h he]; simp
def agS (ws : List Wd) : Str := ws.flatMap fun w => wrT w.kind w.text w.num ++ [32]
theorem lex_again : ∀ (ws : List Wd), (∀ w ∈ ws, Ag w) → ∀ (a ch : Nat), (lexW (agS ws) a ch).2 = flt0 ∧ (lexW (agS ws) a ch).1.map (fun w => (w.kind, w.text, w.num)) = ws.map fun w => (w.kind, w.text, w.num)
  | [], _, a, ch => by
    rw [show agS [] = [] from rfl, lexW_nil (runS_nil rfl)]
    exact ⟨rfl, rfl⟩
  | w :: ws, h, a, ch => by
    obtain ⟨h1, h2⟩ := h w (by simp)
    have hs : agS (w :: ws) = wrT w.kind w.text w.num ++ 32 :: agS ws := by rw [agS, List.flatMap_cons, List.append_assoc]; rfl
    have hp : Part (wrT w.kind w.text w.num) 0 (wrT w.kind w.text w.num) ⟨w.kind, w.text, w.num, (wrT w.kind w.text w.num).length, 0⟩ := ⟨tok_noblank h2 (by rw [h1]), rfl, h2, h1⟩
    have h3 : lexW (wrT w.kind w.text w.num) a ch = ([⟨w.kind, w.text, w.num, a, ch⟩], flt0) := by
      rw [lexW_tok hp rfl]
      simp only [List.drop_length]
      rw [lexW_nil (runS_nil rfl), List.take_zero, chS_nil (s := []) rfl]
      rfl
    rw [hs, lex_join _ _ _ rfl, h3, if_neg (by simp [flt0])]
    obtain ⟨i1, i2⟩ := lex_again ws (fun v hv => h v (by simp [hv])) (a + (wrT w.kind w.text w.num).length + 1) (ch + chS (wrT w.kind w.text w.num) + 1)
    exact ⟨i1, by simp only [List.cons_append, List.nil_append, List.map_cons, i2]⟩

end Tab

/- Words of a text that stands further on: plain. -/
namespace Tab
open Go
set_option maxRecDepth 10000
set_option linter.unusedVariables false
set_option linter.unusedSimpArgs false
set_option linter.unusedSectionVars false

def mvW (d e : Nat) (w : Wd) : Wd := ⟨w.kind, w.text, w.num, w.at' + d, w.ch + e⟩
def mvFl (d e : Nat) (f : Flt) : Flt := if f.why ≠ 0 then ⟨f.why, f.at' + d, f.ch + e⟩ else f
theorem lexW_mv (d e : Nat) : ∀ (n : Nat) (x : Str), x.length = n → ∀ (a ch : Nat), lexW x (a + d) (ch + e) = ((lexW x a ch).1.map (mvW d e), mvFl d e (lexW x a ch).2) := by
  intro n
  induction n using Nat.strongRecOn with
  | _ n ih =>
    intro x hn a ch
    rcases part_of x with h | h
    · rw [lexW_nil h, lexW_nil h]; simp [mvFl, flt0]
    · obtain ⟨l1, l2⟩ := h.lt
      generalize hbe : runS blankR x = b at *
      generalize hxe : x.drop b = x1 at *
      generalize hte : tokS x1 = t at *
      by_cases he : t.err = 0
      · obtain ⟨n1, n2, n3, _⟩ := h.tokN he
        rw [lexW_tok h he, lexW_tok h he]
        have := ih _ (by rw [List.length_drop]; omega) (x1.drop t.n) rfl (a + b + t.n) (ch + chS (x.take b) + chS (x1.take t.n))
        rw [show a + d + b + t.n = a + b + t.n + d by omega, show ch + e + chS (x.take b) + chS (x1.take t.n) = ch + chS (x.take b) + chS (x1.take t.n) + e by omega, this]
        simp only [List.map_cons, mvW]
        rw [show a + d + b = a + b + d by omega, show ch + e + chS (x.take b) = ch + chS (x.take b) + e by omega]
      · rw [lexW_bad h he, lexW_bad h he]
        simp only [mvFl, if_pos he, List.map_nil]
        rw [show a + d + b = a + b + d by omega, show ch + e + chS (x.take b) = ch + chS (x.take b) + e by omega]

end Tab
