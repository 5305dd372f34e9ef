/- Lemmas for this claim: part 9. No condition. -/
import Derived.Test.YtiflemdfnjgobaaDoorZ7
import Derived.Test.YtiflemdfnjgobaaDoorZ8
import Derived.Test.YtiflemdfnjgobaaDoorProg
set_option linter.unusedVariables false
set_option linter.unusedSimpArgs false
set_option linter.unusedSectionVars false
/- What is asked of package-level variables: nothing; or, where texts are decoded, the tables that decoding reads. -/
namespace Tab
open Go

def spcV (c : Nat) : Int := if c = 9 ∨ c = 10 ∨ c = 11 ∨ c = 12 ∨ c = 13 ∨ c = 32 then 1 else 0
def fstV (c : Nat) : Int := if c < 128 then 240 else if c < 194 then 241 else if c < 224 then 2 else if c = 224 then 19 else if c = 237 then 35 else if c < 240 then 3 else if c = 240 then 52 else if c < 244 then 4 else if c = 244 then 68 else 241
def spcZ : List Int := (List.range 256).map spcV
def fstZ : List Int := (List.range 256).map fstV
def accZ : List Int := [128, 191, 160, 191, 128, 159, 144, 191, 128, 143] ++ List.replicate 22 0
def bytZ (l : List Int) : List AV := l.map (.int .u8)
abbrev junkGlobs : Globs := ⟨fun _ => .junk, fun _ _ _ _ _ _ _ => by simp only [VRel]⟩
theorem bytZ_closed (l : List Int) : closeds (bytZ l) := (@closeds_iff junkGlobs _).2 fun a h => by
  obtain ⟨z, _, rfl⟩ := List.mem_map.1 h
  simp only [AV.closed]
theorem bif_closed {b : Bool} {x y : AV} (hx : x.closed) (hy : y.closed) : (bif b then x else y).closed := by cases b <;> assumption
def powZ : List Int := (List.range 20).map fun k => ((10 ^ k : Nat) : Int)
def powA : List AV := powZ.map (.int .u64)
theorem powA_closed : closeds powA := (@closeds_iff junkGlobs _).2 fun a h => by
  obtain ⟨z, _, rfl⟩ := List.mem_map.1 h
  simp only [AV.closed]
def gvP (g : Nat) : AV := bif Nat.beq g 0 then .tref powA else .junk
theorem gvP_closed (g : Nat) : (gvP g).closed := bif_closed (by simp only [AV.closed]; exact powA_closed) (by simp only [AV.closed])
def gvV (g : Nat) : AV := bif Nat.beq g 1 then .tref (bytZ spcZ) else bif Nat.beq g 2 then .tref (bytZ fstZ) else bif Nat.beq g 3 then .tref (bytZ accZ) else gvP g
theorem gvV_closed (g : Nat) : (gvV g).closed := bif_closed (by simp only [AV.closed]; exact bytZ_closed _) (bif_closed (by simp only [AV.closed]; exact bytZ_closed _) (bif_closed (by simp only [AV.closed]; exact bytZ_closed _) (gvP_closed g)))
instance tabGlobs : Globs := ⟨gvV, fun g _ _ _ _ v h => @Tab.AV.closed_rel junkGlobs _ _ _ _ _ v (gvV_closed g) h⟩
theorem tref_ofK {W : World} {g : Nat} {k : IntKind} {l : List Int} (hl : l ≠ []) (h : ∀ (i : Nat) (z : Int), l[i]? = some z → W.cell? ⟨g, i, none⟩ = some (.int k z)) : VRel m₀ (fun cb => cb < W.heap.size) W (.tref (l.map (.int k))) (.pointer (some ⟨g, 0, none⟩)) := by
  have hlt : g < W.heap.size := by
    cases l with
    | nil => exact absurd rfl hl
    | cons z l =>
      have := h 0 z rfl
      by_cases hg : g < W.heap.size
      · exact hg
      · have e : W.heap[g]? = none := by simp; omega
        simp [World.cell?, e] at this
  simp only [VRel]
  refine ⟨g, 0, rfl, CsRel_iff.2 fun i a ha => ⟨hlt, ?_⟩⟩
  rw [List.getElem?_map] at ha
  obtain ⟨z, hz, rfl⟩ := Option.map_eq_some_iff.1 ha
  refine ⟨.int k z, by rw [Nat.zero_add]; exact h i z hz, rfl, by simp only [VRel]⟩
theorem tref_of {W : World} {g : Nat} {l : List Int} (hl : l ≠ []) (h : ∀ (i : Nat) (z : Int), l[i]? = some z → W.cell? ⟨g, i, none⟩ = some (.int .u8 z)) : VRel m₀ (fun cb => cb < W.heap.size) W (.tref (bytZ l)) (.pointer (some ⟨g, 0, none⟩)) := tref_ofK hl h

end Tab

/- Names: which characters they are made of. -/
namespace Tab
open Go Go.Proofs
set_option maxRecDepth 10000
set_option linter.unusedVariables false
set_option linter.unusedSimpArgs false
set_option linter.unusedSectionVars false

def startR (r : Int) : Bool := (decide (65 ≤ r) && decide (r ≤ 90)) || (decide (97 ≤ r) && decide (r ≤ 122)) || decide (r = 95) || (decide (913 ≤ r) && decide (r ≤ 929)) || (decide (931 ≤ r) && decide (r ≤ 937)) || (decide (945 ≤ r) && decide (r ≤ 969))
def restR (r : Int) : Bool := startR r || (decide (48 ≤ r) && decide (r ≤ 57)) || decide (r = 8242) || (decide (8320 ≤ r) && decide (r ≤ 8329))
def resWords : List (List UInt8) := [[97, 110, 100], [111, 114], [110, 111, 116], [101, 120], [97, 108, 108], [109, 111, 100], [116, 114, 117, 101], [102, 97, 108, 115, 101]]
def resS (s : List UInt8) : Bool := decide (s ∈ resWords)

theorem glyph_Start (r : Int) : Pure Tryd.prog 112 [.int .i32 r] (.bool (startR r)) := by
  refine Pure.of_sw 37 Tryd.func112 rfl Tryd.ntmps112 (by kernel_rfl) (Nat.le_of_ble_eq_true (by kernel_rfl)) (by simp [closeds, AV.closed, aSs_closed, aIs_closed, aBs_closed, aRs_closed, aDen_closed]) (by simp [AV.closed, closeds, aSs_closed, aIs_closed, aBs_closed, aRs_closed, aDen_closed]) ?_; refine SW.of_vc ?_
  repeat' first | refine opsStep ?_ | refine codeStep ?_ | refine decB_split (fun h => ?_) (fun h => ?_)
  all_goals exact finB rfl (by simp at *; simp [startR]; omega)

theorem glyph_Rest (r : Int) : Pure Tryd.prog 113 [.int .i32 r] (.bool (restR r)) := by
  refine Pure.of_sw 25 Tryd.func113 rfl Tryd.ntmps113 (by kernel_rfl) (Nat.le_of_ble_eq_true (by kernel_rfl)) (by simp [closeds, AV.closed, aSs_closed, aIs_closed, aBs_closed, aRs_closed, aDen_closed]) (by simp [AV.closed, closeds, aSs_closed, aIs_closed, aBs_closed, aRs_closed, aDen_closed]) ?_; refine SW.of_vc ?_
  repeat first | refine opsStep ?_ | refine codeStep ?_ | refine drawStep ?_
  refine callP (glyph_Start r) ?_
  repeat first | refine opsStep ?_ | refine codeStep ?_ | refine drawStep ?_
  refine decB_split (fun h => ?_) (fun h => ?_)
  · repeat first | refine opsStep ?_ | refine codeStep ?_ | refine drawStep ?_
    exact finB rfl (by simp [restR, h])
  · repeat' first | refine opsStep ?_ | refine codeStep ?_ | refine decB_split (fun h => ?_) (fun h => ?_)
    all_goals exact finB rfl (by simp at *; simp [restR, *]; try omega)

theorem glyph_Reserved (s : List UInt8) : Pure Tryd.prog 131 [.str s] (.bool (resS s)) := by
  refine Pure.of_sw 13 Tryd.func131 rfl Tryd.ntmps131 (by kernel_rfl) (Nat.le_of_ble_eq_true (by kernel_rfl)) (by simp [closeds, AV.closed, aSs_closed, aIs_closed, aBs_closed, aRs_closed, aDen_closed]) (by simp [AV.closed, closeds, aSs_closed, aIs_closed, aBs_closed, aRs_closed, aDen_closed]) ?_; refine SW.of_vc ?_
  repeat first | refine opsStep ?_ | refine codeStep ?_ | refine drawStep ?_
  repeat' first | refine opsStep ?_ | refine codeStep ?_ | refine decB_split (fun h => ?_) (fun h => ?_)
  all_goals exact finB rfl (by simp_all [resS, resWords])

attribute [irreducible] startR restR resS
end Tab

/- Names as the reference reads them. -/
namespace Tab
open Go Go.Proofs
set_option maxRecDepth 10000
set_option linter.unusedVariables false
set_option linter.unusedSimpArgs false
set_option linter.unusedSectionVars false

def inR (r : Int) : List Int → Bool
  | a :: b :: l => (decide (a ≤ r) && decide (r ≤ b)) || inR r l
  | _ => false

theorem inR_short {r : Int} {l : List Int} (h : l.length ≤ 1) : inR r l = false := by
  match l, h with
  | [], _ => rfl
  | [_], _ => rfl

theorem inR_drop {r : Int} {l : List Int} {i : Nat} (h : i + 1 < l.length) : inR r (l.drop i) = ((decide (l[i] ≤ r) && decide (r ≤ l[i + 1])) || inR r (l.drop (i + 2))) := by
  rw [List.drop_eq_getElem_cons (by omega), List.drop_eq_getElem_cons (by omega)]
  rfl

theorem r04_within (k : SK) (r : Int) (l : List Int) (hl : l.length < 2^62) : Pure Tryd.prog 121 [.int .i64 r, aIs k l] (.bool (inR r l)) := by
  refine Pure.of_sw 28 Tryd.func121 rfl Tryd.ntmps121 (by kernel_rfl) (Nat.le_of_ble_eq_true (by kernel_rfl)) (by simp [closeds, AV.closed, aSs_closed, aIs_closed, aBs_closed, aRs_closed, aDen_closed]) (by simp [AV.closed, closeds, aSs_closed, aIs_closed, aBs_closed, aRs_closed, aDen_closed]) ?_; refine SW.of_vc ?_
  repeat first | refine opsStep ?_ | refine codeStep ?_ | refine drawStep ?_
  refine loopE_of (ι := {i : Nat // i ≤ l.length + 1 ∧ inR r l = inR r (l.drop i)}) (fun i => (fr [(0, .int .i64 r), (1, aIs k l), (5, .int .i64 i.1)], [])) (fun i => l.length + 2 - i.1) ⟨0, by omega, by simp⟩ (Ent.fr ⟨rfl, rfl, rfl, trivial⟩) ?_
  rintro ⟨i, hi, hpre⟩
  have hw : IntKind.wrap .i64 ((i : Int) + 1) = i + 1 := IntWalk.i64_in _ (by omega)
  repeat first | refine opsStep ?_ | refine codeStep ?_ | refine drawStep ?_
  refine decB_split (fun h => ?_) (fun h => ?_)
  · have hi1 : i + 1 < l.length := by simp [hw] at h; omega
    repeat first | refine opsStep ?_ | refine codeStep ?_ | refine drawStep ?_
    refine guardE_of (by simp; omega) ?_
    repeat first | refine opsStep ?_ | refine codeStep ?_ | refine drawStep ?_
    refine optE_of (c := .int .i64 l[i]) (by simp [Value.cells, show i < l.length by omega]) ?_
    repeat first | refine opsStep ?_ | refine codeStep ?_ | refine drawStep ?_
    have hd := inR_drop (r := r) hi1
    refine decB_split (fun h => ?_) (fun h => ?_)
    · repeat first | refine opsStep ?_ | refine codeStep ?_ | refine drawStep ?_
      refine guardE_of (by simp [hw]; omega) ?_
      repeat first | refine opsStep ?_ | refine codeStep ?_ | refine drawStep ?_
      refine optE_of (c := .int .i64 l[i+1]) (by simp [Value.cells, hw, hi1]) ?_
      repeat first | refine opsStep ?_ | refine codeStep ?_ | refine drawStep ?_
      refine decB_split (fun h => ?_) (fun h => ?_)
      · repeat first | refine opsStep ?_ | refine codeStep ?_ | refine drawStep ?_
        exact finB rfl (by simp at *; rw [hpre, hd]; simp [*])
      · repeat first | refine opsStep ?_ | refine codeStep ?_ | refine drawStep ?_
        refine ⟨⟨i + 2, by omega, by rw [hpre, hd]; simp_all; try (intros; omega)⟩, (by show l.length + 2 - (i + 2) < l.length + 2 - i; omega), Ent.fr' ⟨(by kernel_rfl), (by kernel_rfl), (congrArg (AV.int .i64) (IntWalk.i64_in ((i : Int) + 2) (by omega)) : _), trivial⟩ (by kernel_rfl)⟩
    · repeat first | refine opsStep ?_ | refine codeStep ?_ | refine drawStep ?_
      refine ⟨⟨i + 2, by omega, by rw [hpre, hd]; simp_all; try (intros; omega)⟩, (by show l.length + 2 - (i + 2) < l.length + 2 - i; omega), Ent.fr' ⟨(by kernel_rfl), (by kernel_rfl), (congrArg (AV.int .i64) (IntWalk.i64_in ((i : Int) + 2) (by omega)) : _), trivial⟩ (by kernel_rfl)⟩
  · repeat first | refine opsStep ?_ | refine codeStep ?_ | refine drawStep ?_
    exact finB rfl (by rw [hpre, inR_short]; simp [hw] at h; simp; omega)

theorem r04_Start (r : Int) : Pure Tryd.prog 91 [.int .i64 r] (.bool (startR r)) := by
  refine Pure.of_sw 6 Tryd.func91 rfl Tryd.ntmps91 (by kernel_rfl) (Nat.le_of_ble_eq_true (by kernel_rfl)) (by simp [closeds, AV.closed, aSs_closed, aIs_closed, aBs_closed, aRs_closed, aDen_closed]) (by simp [AV.closed, closeds, aSs_closed, aIs_closed, aBs_closed, aRs_closed, aDen_closed]) ?_; refine SW.of_vc ?_
  repeat first | refine opsStep ?_ | refine codeStep ?_ | refine drawStep ?_
  refine optX_of (c := [65, 90, 97, 122, 95, 95, 0x391, 0x3a1, 0x3a3, 0x3a9, 0x3b1, 0x3c9].map (.int .i64)) (by kernel_rfl) ?_
  repeat first | refine opsStep ?_ | refine codeStep ?_ | refine drawStep ?_
  refine callB (r04_within .any r [65, 90, 97, 122, 95, 95, 0x391, 0x3a1, 0x3a3, 0x3a9, 0x3b1, 0x3c9] (by simp)) rfl (.cons (.refl _) (.cons (.whole (by kernel_rfl) (by kernel_rfl)) .nil)) ?_
  repeat first | refine opsStep ?_ | refine codeStep ?_ | refine drawStep ?_
  exact finB rfl (by rw [Bool.eq_iff_iff]; simp [inR, startR]; omega)

theorem r04_Rest (r : Int) : Pure Tryd.prog 110 [.int .i64 r] (.bool (restR r)) := by
  refine Pure.of_sw 10 Tryd.func110 rfl Tryd.ntmps110 (by kernel_rfl) (Nat.le_of_ble_eq_true (by kernel_rfl)) (by simp [closeds, AV.closed, aSs_closed, aIs_closed, aBs_closed, aRs_closed, aDen_closed]) (by simp [AV.closed, closeds, aSs_closed, aIs_closed, aBs_closed, aRs_closed, aDen_closed]) ?_; refine SW.of_vc ?_
  repeat first | refine opsStep ?_ | refine codeStep ?_ | refine drawStep ?_
  refine callP (r04_Start r) ?_
  repeat first | refine opsStep ?_ | refine codeStep ?_ | refine drawStep ?_
  refine decB_split (fun h => ?_) (fun h => ?_)
  · repeat first | refine opsStep ?_ | refine codeStep ?_ | refine drawStep ?_
    exact finB rfl (by simp [restR, h])
  · repeat first | refine opsStep ?_ | refine codeStep ?_ | refine drawStep ?_
    refine optX_of (c := [48, 57, 0x2032, 0x2032, 0x2080, 0x2089].map (.int .i64)) (by kernel_rfl) ?_
    repeat first | refine opsStep ?_ | refine codeStep ?_ | refine drawStep ?_
    refine callB (r04_within .any r [48, 57, 0x2032, 0x2032, 0x2080, 0x2089] (by simp)) rfl (.cons (.refl _) (.cons (.whole (by kernel_rfl) (by kernel_rfl)) .nil)) ?_
    repeat first | refine opsStep ?_ | refine codeStep ?_ | refine drawStep ?_
    exact finB rfl (by rw [Bool.eq_iff_iff]; simp [inR, restR, h]; omega)

theorem r04_Reserved (s : List UInt8) : Pure Tryd.prog 93 [.str s] (.bool (resS s)) := by
  refine Pure.of_sw 18 Tryd.func93 rfl Tryd.ntmps93 (by kernel_rfl) (Nat.le_of_ble_eq_true (by kernel_rfl)) (by simp [closeds, AV.closed, aSs_closed, aIs_closed, aBs_closed, aRs_closed, aDen_closed]) (by simp [AV.closed, closeds, aSs_closed, aIs_closed, aBs_closed, aRs_closed, aDen_closed]) ?_; refine SW.of_vc ?_
  repeat first | refine opsStep ?_ | refine codeStep ?_ | refine drawStep ?_
  refine optX_of (c := resWords.map .str) (by kernel_rfl) ?_
  repeat first | refine opsStep ?_ | refine codeStep ?_ | refine drawStep ?_
  refine loopE_of (ι := {i : Nat // i ≤ 8 ∧ s ∉ resWords.take i}) (fun i => (fr [(0, .str s), (3, .hs 0 0 0 8 1), (4, .int .i64 i.1)], [.cells 0 (resWords.map .str)])) (fun i => 9 - i.1) ⟨0, by omega, by simp⟩ (Ent.fr' ⟨rfl, rfl, rfl, trivial⟩ (by kernel_rfl)) ?_
  rintro ⟨i, hi, hpre⟩
  repeat first | refine opsStep ?_ | refine codeStep ?_ | refine drawStep ?_
  refine decB_split (fun h => ?_) (fun h => ?_)
  · have hi1 : i < 8 := by simp at h; omega
    have hi2 : i < resWords.length := by simpa [resWords] using hi1
    repeat first | refine opsStep ?_ | refine codeStep ?_ | refine drawStep ?_
    refine guardE_of (by simp; omega) ?_
    repeat first | refine opsStep ?_ | refine codeStep ?_ | refine drawStep ?_
    refine optE_of (c := .str resWords[i]) (by simp [Value.cells, hi2]) ?_
    repeat first | refine opsStep ?_ | refine codeStep ?_ | refine drawStep ?_
    have ht : resWords.take (i + 1) = resWords.take i ++ [resWords[i]] := List.take_succ_eq_append_getElem (by simpa [resWords] using hi1)
    refine decB_split (fun h => ?_) (fun h => ?_)
    · repeat first | refine opsStep ?_ | refine codeStep ?_ | refine drawStep ?_
      exact finB rfl (by simp at h; subst h; simp only [resS]; exact (decide_eq_true (List.getElem_mem hi2)).symm)
    · repeat first | refine opsStep ?_ | refine codeStep ?_ | refine drawStep ?_
      refine ⟨⟨i + 1, by omega, fun e => (List.mem_append.1 (ht ▸ e)).elim hpre (fun e => by simp at h; exact h (List.mem_singleton.1 e).symm)⟩, (by show 9 - (i + 1) < 9 - i; omega), Ent.fr' ⟨(by kernel_rfl), (by kernel_rfl), inc_slot (i := i) (by omega), trivial⟩ (by kernel_rfl)⟩
  · repeat first | refine opsStep ?_ | refine codeStep ?_ | refine drawStep ?_
    have : i = 8 := by simp at h; omega
    subst this
    exact finB rfl (by simp [resS]; exact hpre)

end Tab

/- Characters: what the model decodes, and what the reference reads. -/
namespace Tab
open Go Go.Proofs
set_option maxRecDepth 10000
set_option linter.unusedVariables false
set_option linter.unusedSimpArgs false
set_option linter.unusedSectionVars false

def bt (s : List UInt8) (i : Nat) : Nat := (s.getD i 0).toNat
def ctb (s : List UInt8) (i : Nat) : Bool := decide (i < s.length) && (bt s i / 64 == 2)
def okc (c : Nat) : Bool := Utf8.valid c

theorem bt_get (s : List UInt8) (i : Nat) : ((ByteArray.mk s.toArray).get! i).toNat = bt s i := by
  simp [ByteArray.get!, bt, List.getD_eq_getElem?_getD]
  rfl

theorem dec_def (s : List UInt8) (p : Nat) : dec s p =
    if bt s p < 0x80 then (bt s p, 1)
    else if (bt s p / 32 == 6 && ctb s (p + 1)) = true then
      let c := (bt s p % 32) * 64 + bt s (p + 1) % 64
      if c ≥ 0x80 then (c, 2) else (65533, 1)
    else if (bt s p / 16 == 14 && ctb s (p + 1) && ctb s (p + 2)) = true then
      let c := (bt s p % 16) * 4096 + (bt s (p + 1) % 64) * 64 + bt s (p + 2) % 64
      if (decide (c ≥ 0x800) && okc c) = true then (c, 3) else (65533, 1)
    else if (bt s p / 8 == 30 && ctb s (p + 1) && ctb s (p + 2) && ctb s (p + 3)) = true then
      let c := (bt s p % 8) * 262144 + (bt s (p + 1) % 64) * 4096 + (bt s (p + 2) % 64) * 64 + bt s (p + 3) % 64
      if (decide (c ≥ 0x10000) && okc c) = true then (c, 4) else (65533, 1)
    else (65533, 1) := by
  have hs : (ByteArray.mk s.toArray).size = s.length := by simp [ByteArray.size]
  simp only [dec, Utf8.decode, bt_get, hs, ctb, okc, Nat.add_zero, Utf8.runeError]
  simp only [decide_eq_true_eq, Bool.and_eq_true, ge_iff_le]

def accR (x0 : Int) (s : List UInt8) (p : Nat) : Nat → Int
  | 0 => x0
  | n + 1 => accR x0 s p n * 64 + bt s (p + n + 1) - 128

theorem bt_lt (s : List UInt8) (i : Nat) : bt s i < 256 := by
  unfold bt; exact UInt8.toNat_lt _
theorem ite_cond {α : Type} {q r : Prop} [Decidable q] [Decidable r] {x y x' : α} (h : q ↔ r) (e : q → x = x') : (if q then x else y) = (if r then x' else y) := by
  by_cases hq : q
  · rw [if_pos hq, if_pos (h.1 hq), e hq]
  · rw [if_neg hq, if_neg (fun k => hq (h.2 k))]

theorem fa1 {Q : Nat → Prop} : (∀ j, j < 2 - 1 → Q j) ↔ Q 0 :=
  ⟨fun h => h 0 (by omega), fun h j hj => by have : j = 0 := by omega
                                             subst this; exact h⟩
theorem fa2 {Q : Nat → Prop} : (∀ j, j < 3 - 1 → Q j) ↔ Q 0 ∧ Q 1 :=
  ⟨fun h => ⟨h 0 (by omega), h 1 (by omega)⟩, fun h j hj => by
    have : j = 0 ∨ j = 1 := by omega
    rcases this with rfl | rfl
    · exact h.1
    · exact h.2⟩
theorem fa3 {Q : Nat → Prop} : (∀ j, j < 4 - 1 → Q j) ↔ Q 0 ∧ Q 1 ∧ Q 2 :=
  ⟨fun h => ⟨h 0 (by omega), h 1 (by omega), h 2 (by omega)⟩, fun h j hj => by
    have : j = 0 ∨ j = 1 ∨ j = 2 := by omega
    rcases this with rfl | rfl | rfl
    · exact h.1
    · exact h.2.1
    · exact h.2.2⟩

theorem ctb_iff {s : List UInt8} {i : Nat} : ctb s i = true ↔ i < s.length ∧ bt s i / 64 = 2 := by simp [ctb]
theorem okc_iff {c : Nat} : okc c = true ↔ c < 55296 ∨ (57344 ≤ c ∧ c ≤ 1114111) := by
  simp only [okc, Utf8.valid, Bool.or_eq_true, Bool.and_eq_true, decide_eq_true_eq]; omega

theorem dec2 {s : List UInt8} {p : Nat} (h1 : 194 ≤ bt s p) (h2 : bt s p < 224) : dec s p = if (∀ j, j < 2 - 1 → ctb s (p + j + 1) = true) ∧ (128 : Int) ≤ accR ((bt s p : Int) - 192) s p (2 - 1) ∧ okc (accR ((bt s p : Int) - 192) s p (2 - 1)).toNat = true
    then ((accR ((bt s p : Int) - 192) s p (2 - 1)).toNat, 2) else (65533, 1) := by
  have hb := bt_lt s p
  have hb1 := bt_lt s (p + 1)
  simp only [fa1, accR, Nat.add_zero, okc_iff, ctb_iff]
  rw [dec_def, if_neg (by omega)]
  by_cases hc : p + 1 < s.length ∧ bt s (p + 1) / 64 = 2
  · rw [if_pos (by simp [ctb_iff, hc]; omega)]
    refine ite_cond (by simp only [hc, true_and, and_self]; omega) (fun _ => by simp only [Prod.mk.injEq, and_true]; omega)
  · rw [if_neg (by simp only [Bool.and_eq_true, ctb_iff]; exact fun k => hc k.2), if_neg (by simp; omega), if_neg (by simp; omega), if_neg (fun k => hc k.1)]

theorem dec3 {s : List UInt8} {p : Nat} (h1 : 224 ≤ bt s p) (h2 : bt s p < 240) : dec s p = if (∀ j, j < 3 - 1 → ctb s (p + j + 1) = true) ∧ (2048 : Int) ≤ accR ((bt s p : Int) - 224) s p (3 - 1) ∧ okc (accR ((bt s p : Int) - 224) s p (3 - 1)).toNat = true
    then ((accR ((bt s p : Int) - 224) s p (3 - 1)).toNat, 3) else (65533, 1) := by
  have hb := bt_lt s p
  have hb1 := bt_lt s (p + 1)
  have hb2 := bt_lt s (p + 2)
  simp only [fa2, accR, Nat.add_zero, okc_iff, ctb_iff, show p + 1 + 1 = p + 2 by omega]
  rw [dec_def, if_neg (by omega), if_neg (by simp; omega)]
  by_cases hc : (p + 1 < s.length ∧ bt s (p + 1) / 64 = 2) ∧ (p + 2 < s.length ∧ bt s (p + 2) / 64 = 2)
  · rw [if_pos (by simp [ctb_iff, hc]; omega)]
    refine ite_cond (by simp only [hc, true_and, and_self, Bool.and_eq_true, decide_eq_true_eq, okc_iff]; omega) (fun _ => by simp only [Prod.mk.injEq, and_true]; omega)
  · rw [if_neg (by simp only [Bool.and_eq_true, ctb_iff]; exact fun k => hc ⟨k.1.2, k.2⟩), if_neg (by simp; omega), if_neg (fun k => hc k.1)]

theorem dec4 {s : List UInt8} {p : Nat} (h1 : 240 ≤ bt s p) (h2 : bt s p < 245) : dec s p = if (∀ j, j < 4 - 1 → ctb s (p + j + 1) = true) ∧ (65536 : Int) ≤ accR ((bt s p : Int) - 240) s p (4 - 1) ∧ okc (accR ((bt s p : Int) - 240) s p (4 - 1)).toNat = true
    then ((accR ((bt s p : Int) - 240) s p (4 - 1)).toNat, 4) else (65533, 1) := by
  have hb := bt_lt s p
  have hb1 := bt_lt s (p + 1)
  have hb2 := bt_lt s (p + 2)
  have hb3 := bt_lt s (p + 3)
  simp only [fa3, accR, Nat.add_zero, okc_iff, ctb_iff, show p + 1 + 1 = p + 2 by omega, show p + 2 + 1 = p + 3 by omega]
  rw [dec_def, if_neg (by omega), if_neg (by simp; omega), if_neg (by simp; omega)]
  by_cases hc : (p + 1 < s.length ∧ bt s (p + 1) / 64 = 2) ∧ (p + 2 < s.length ∧ bt s (p + 2) / 64 = 2) ∧ (p + 3 < s.length ∧ bt s (p + 3) / 64 = 2)
  · rw [if_pos (by simp [ctb_iff, hc]; omega)]
    refine ite_cond (by simp only [hc, true_and, and_self, Bool.and_eq_true, decide_eq_true_eq, okc_iff]; omega) (fun _ => by simp only [Prod.mk.injEq, and_true]; omega)
  · rw [if_neg (by simp only [Bool.and_eq_true, ctb_iff]; exact fun k => hc ⟨k.1.1.2, k.1.2, k.2⟩), if_neg (fun k => hc k.1)]

theorem decX {s : List UInt8} {p : Nat} (h : (128 ≤ bt s p ∧ bt s p < 194) ∨ 245 ≤ bt s p) : dec s p = (65533, 1) := by
  have hb := bt_lt s p
  have hb1 := bt_lt s (p + 1)
  have hb2 := bt_lt s (p + 2)
  have hb3 := bt_lt s (p + 3)
  rw [dec_def, if_neg (by omega)]
  simp only [okc_iff, Bool.and_eq_true, decide_eq_true_eq, beq_iff_eq, ge_iff_le]
  split
  · split
    · omega
    · rfl
  · split
    · omega
    · split
      · split
        · omega
        · rfl
      · rfl

theorem bt_at {s : List UInt8} {i : Nat} (h : i < s.length) : (s[i].toNat) = bt s i := by
  simp [bt, List.getD_eq_getElem?_getD, h]

def okd (s : List UInt8) (p : Nat) : Bool := decide (dec s p ≠ (65533, 1))
theorem okd_eq (s : List UInt8) (p : Nat) : okd s p = decide (dec s p ≠ (65533, 1)) := rfl

theorem r04_Read (s : List UInt8) (p : Nat) (hp : p < s.length) (hl : s.length < 2^62) :
    Pure Tryd.prog 90 [.str s, .int .i64 p] (.tup [.int .i64 (dec s p).1, .int .i64 (dec s p).2, .bool (okd s p)]) := by
  rw [okd_eq]
  refine Pure.of_sw 92 Tryd.func90 rfl Tryd.ntmps90 (by kernel_rfl) (Nat.le_of_ble_eq_true (by kernel_rfl)) (by simp [closeds, AV.closed, aSs_closed, aIs_closed, aBs_closed, aRs_closed, aDen_closed]) (by simp [AV.closed, closeds, aSs_closed, aIs_closed, aBs_closed, aRs_closed, aDen_closed]) ?_; refine SW.of_vc ?_
  repeat first | refine opsStep ?_ | refine codeStep ?_ | refine drawStep ?_
  refine optE_of (c := s[p]) (by simp [hp]) ?_
  repeat first | refine opsStep ?_ | refine codeStep ?_ | refine drawStep ?_
  have hb := bt_lt s p
  rw [bt_at hp]
  have hw : IntKind.wrap .i64 (bt s p) = (bt s p : Int) := IntWalk.i64_in _ (by omega)
  have key : ∀ (w : Nat) (least x0 : Int), 2 ≤ w → w ≤ 4 → 0 ≤ x0 → x0 < 64 →
      (dec s p = if (∀ j, j < w - 1 → ctb s (p + j + 1) = true) ∧ least ≤ accR x0 s p (w - 1) ∧ okc (accR x0 s p (w - 1)).toNat = true then ((accR x0 s p (w - 1)).toNat, w) else (65533, 1)) →
      VCode Tryd.prog 92 (cSnd (cSnd (cSnd (cSnd (Tryd.f90.body.getD .skip))))) (fr [(0, .str s), (1, .int .i64 p), (7, .int .i64 x0), (8, .int .i64 w), (9, .int .i64 least)]) []
        (pureK Tryd.prog 92 Tryd.f90.results.toList (.tup [.int .i64 (dec s p).1, .int .i64 (dec s p).2, .bool (decide (dec s p ≠ (65533, 1)))])) := by
    intro w least x0 h2 h4 hx0 hx1 hdec
    have hsub : IntKind.wrap .i64 ((s.length : Int) - p) = s.length - p := IntWalk.i64_in _ (by omega)
    repeat first | refine opsStep ?_ | refine codeStep ?_ | refine drawStep ?_
    refine decB_split (fun h => ?_) (fun h => ?_)
    · repeat first | refine opsStep ?_ | refine codeStep ?_ | refine drawStep ?_
      have hd : dec s p = (65533, 1) := by
        rw [hdec, if_neg]
        rintro ⟨hc, _⟩
        have := hc (w - 2) (by omega)
        simp [ctb] at this
        simp [hsub] at h
        omega
      exact finV (v' := .tup [.int .i64 65533, .int .i64 1, .bool false]) (by kernel_rfl) (by rw [hd]; simp)
    · repeat first | refine opsStep ?_ | refine codeStep ?_ | refine drawStep ?_
      have hlen : p + w ≤ s.length := by simp [hsub] at h; omega
      refine loopE_of (ι := {i : Nat // 1 ≤ i ∧ i ≤ w ∧ (∀ j, j < i - 1 → ctb s (p + j + 1) = true) ∧ 0 ≤ accR x0 s p (i - 1) ∧ accR x0 s p (i - 1) < 64 ^ i})
        (fun i => (fr [(0, .str s), (1, .int .i64 p), (7, .int .i64 (accR x0 s p (i.1 - 1))), (8, .int .i64 w), (9, .int .i64 least), (10, .int .i64 i.1)], [])) (fun i => w - i.1)
        ⟨1, by omega, by omega, by intro j hj; omega, by simpa [accR] using hx0, by simpa [accR] using hx1⟩ (Ent.fr' ⟨(by kernel_rfl), (by kernel_rfl), (by kernel_rfl), (by kernel_rfl), (by kernel_rfl), (by kernel_rfl), trivial⟩ (by kernel_rfl)) ?_
      rintro ⟨i, hi1, hi2, hct, hlo, hhi⟩
      repeat first | refine opsStep ?_ | refine codeStep ?_ | refine drawStep ?_
      refine decB_split (fun h => ?_) (fun h => ?_)
      · have hiw : i < w := by simp at h; omega
        have hwp : IntKind.wrap .i64 ((p : Int) + i) = p + i := IntWalk.i64_in _ (by omega)
        have hpi : p + i < s.length := by omega
        have hb1 := bt_lt s (p + i)
        have hw1 : IntKind.wrap .i64 (bt s (p + i)) = (bt s (p + i) : Int) := IntWalk.i64_in _ (by omega)
        have hbad : (bt s (p + i) < 128 ∨ 191 < bt s (p + i)) → dec s p = (65533, 1) := by
          intro hb
          rw [hdec, if_neg]
          rintro ⟨hc, _⟩
          have := hc (i - 1) (by omega)
          rw [show p + (i - 1) + 1 = p + i by omega] at this
          simp [ctb] at this
          omega
        repeat first | refine opsStep ?_ | refine codeStep ?_ | refine drawStep ?_
        refine guardE_of (by rw [hwp]; omega) ?_
        repeat first | refine opsStep ?_ | refine codeStep ?_ | refine drawStep ?_
        refine optE_of (c := s[p + i]) (by rw [hwp]; simp [← Int.natCast_add, hpi]) ?_
        rw [bt_at hpi]
        repeat first | refine opsStep ?_ | refine codeStep ?_ | refine drawStep ?_
        refine decB_split (fun h => ?_) (fun h => ?_)
        · repeat first | refine opsStep ?_ | refine codeStep ?_ | refine drawStep ?_
          exact finV (v' := .tup [.int .i64 65533, .int .i64 1, .bool false]) (by kernel_rfl) (by rw [hbad (by simp [hw1] at h; omega)]; simp)
        · repeat first | refine opsStep ?_ | refine codeStep ?_ | refine drawStep ?_
          refine decB_split (fun h => ?_) (fun h => ?_)
          · repeat first | refine opsStep ?_ | refine codeStep ?_ | refine drawStep ?_
            exact finV (v' := .tup [.int .i64 65533, .int .i64 1, .bool false]) (by kernel_rfl) (by rw [hbad (by simp [hw1] at h; omega)]; simp)
          · repeat first | refine opsStep ?_ | refine codeStep ?_ | refine drawStep ?_
            rename_i h0
            simp [hw1] at h h0
            have hpow : 64 ^ i ≤ 64 ^ 3 := Nat.pow_le_pow_right (by omega) (by omega)
            have hacc : accR x0 s p (i + 1 - 1) = accR x0 s p (i - 1) * 64 + bt s (p + i) - 128 := by
              obtain ⟨i, rfl⟩ : ∃ k, i = k + 1 := ⟨i - 1, by omega⟩
              rfl
            have hhi' : accR x0 s p (i - 1) < ((64 ^ i : Nat) : Int) := by simpa using hhi
            have h1 : IntKind.wrap .i64 (accR x0 s p (i - 1) * 64) = accR x0 s p (i - 1) * 64 := IntWalk.i64_in _ (by omega)
            have h2 : IntKind.wrap .i64 (accR x0 s p (i - 1) * 64 + bt s (p + i)) = accR x0 s p (i - 1) * 64 + bt s (p + i) := IntWalk.i64_in _ (by omega)
            have h3 : IntKind.wrap .i64 (accR x0 s p (i - 1) * 64 + bt s (p + i) - 128) = accR x0 s p (i - 1) * 64 + bt s (p + i) - 128 := IntWalk.i64_in _ (by omega)
            refine ⟨⟨i + 1, by omega, by omega, ?_, by rw [hacc]; omega, ?_⟩, (by show w - (i + 1) < w - i; omega), Ent.fr' ⟨(by kernel_rfl), (by kernel_rfl), ?_, (by kernel_rfl), (by kernel_rfl), inc_slot (i := i) (by omega), trivial⟩ (by kernel_rfl)⟩
            · intro j hj
              by_cases e : j < i - 1
              · exact hct j e
              · rw [show p + j + 1 = p + i by omega]
                simp [ctb]
                omega
            · rw [hacc]
              have : ((64 ^ (i + 1) : Nat) : Int) = 64 * ((64 ^ i : Nat) : Int) := by rw [Nat.pow_succ]; push_cast; omega
              have e : ((64 : Int) ^ (i + 1)) = ((64 ^ (i + 1) : Nat) : Int) := by push_cast; rfl
              rw [e]; omega
            · show AV.int .i64 (IntKind.wrap .i64 (IntKind.wrap .i64 (IntKind.wrap .i64 (accR x0 s p (i - 1) * 64) + IntKind.wrap .i64 (bt s (p + i))) - 128)) = _
              rw [h1, hw1, h2, h3, hacc]
      · have hiw : i = w := by simp at h; omega
        subst hiw
        have hdec' : dec s p = if least ≤ accR x0 s p (i - 1) ∧ accR x0 s p (i - 1) ≤ 1114111 ∧ ¬(55296 ≤ accR x0 s p (i - 1) ∧ accR x0 s p (i - 1) ≤ 57343) then ((accR x0 s p (i - 1)).toNat, i) else (65533, 1) := by
          rw [hdec]
          have e : ∀ (q r : Prop) [Decidable q] [Decidable r] (x y : Nat × Nat), (q ↔ r) → (if q then x else y) = (if r then x else y) := fun q r _ _ x y h => by
            by_cases hq : q
            · rw [if_pos hq, if_pos (h.1 hq)]
            · rw [if_neg hq, if_neg (fun k => hq (h.2 k))]
          apply e
          simp only [okc, Utf8.valid, Bool.or_eq_true, Bool.and_eq_true, decide_eq_true_eq]
          constructor
          · rintro ⟨_, h1, h2⟩; omega
          · rintro ⟨h1, h2, h3⟩; exact ⟨hct, h1, by omega⟩
        have hA : ∃ A, accR x0 s p (i - 1) = A := ⟨_, rfl⟩
        repeat' first | refine opsStep ?_ | refine codeStep ?_ | refine decB_split (fun h => ?_) (fun h => ?_)
        all_goals first
          | exact finV (v' := .tup [.int .i64 65533, .int .i64 1, .bool false]) (by kernel_rfl) (by rw [hdec', if_neg (by simp at *; omega)]; simp)
          | exact finV (v' := .tup [.int .i64 (accR x0 s p (i - 1)), .int .i64 i, .bool true]) (by kernel_rfl) (by rw [hdec', if_pos (by simp at *; omega)]; simp; omega)
  refine decB_split (fun h => ?_) (fun h => ?_)
  · repeat first | refine opsStep ?_ | refine codeStep ?_ | refine drawStep ?_
    exact finV (v' := .tup [.int .i64 (IntKind.wrap .i64 (bt s p)), .int .i64 1, .bool true]) (by kernel_rfl) (by simp [hw] at h; rw [dec_def, if_pos (by omega)]; simp [hw]; omega)
  · have hn : 128 ≤ bt s p := by simp [hw] at h; omega
    have cw : ∀ k : Nat, k ≤ 240 → IntKind.wrap .i64 ((bt s p : Int) - k) = bt s p - k := fun k hk => IntWalk.i64_in _ (by omega)
    have nb : ∀ {b : Bool}, b = false → b ≠ true := fun h => by simp [h]
    repeat first | refine opsStep ?_ | refine codeStep ?_ | refine drawStep ?_
    refine decB_dec (fun h1 => ?_) (fun h1 => ?_)
    · rw [hw] at h1
      repeat first | refine opsStep ?_ | refine codeStep ?_ | refine drawStep ?_
      refine decB_dec (fun h2 => ?_) (fun h2 => ?_)
      · rw [hw] at h2
        repeat first | refine VCode.ent ?_ (key 2 128 ((bt s p : Int) - 192) (by omega) (by omega) (by omega) (by omega) (dec2 (by omega) (by omega))) | refine opsStep ?_ | refine codeStep ?_
        exact Ent.fr' ⟨(by kernel_rfl), (by kernel_rfl), (congrArg (AV.int .i64) ((congrArg (fun z => IntKind.wrap .i64 (z - 192)) hw).trans (cw 192 (by omega))) : _), (by kernel_rfl), (by kernel_rfl), trivial⟩ (by kernel_rfl)
      · rw [hw] at h2
        repeat first | refine opsStep ?_ | refine codeStep ?_ | refine drawStep ?_
        refine decB_dec (fun h3 => ?_) (fun h3 => ?_)
        · rw [hw] at h3
          repeat first | refine opsStep ?_ | refine codeStep ?_ | refine drawStep ?_
          refine decB_dec (fun h4 => ?_) (fun h4 => ?_)
          · rw [hw] at h4
            repeat first | refine VCode.ent ?_ (key 3 2048 ((bt s p : Int) - 224) (by omega) (by omega) (by omega) (by omega) (dec3 (by omega) (by omega))) | refine opsStep ?_ | refine codeStep ?_
            exact Ent.fr' ⟨(by kernel_rfl), (by kernel_rfl), (congrArg (AV.int .i64) ((congrArg (fun z => IntKind.wrap .i64 (z - 224)) hw).trans (cw 224 (by omega))) : _), (by kernel_rfl), (by kernel_rfl), trivial⟩ (by kernel_rfl)
          · rw [hw] at h4
            repeat first | refine opsStep ?_ | refine codeStep ?_ | refine drawStep ?_
            refine decB_dec (fun h5 => ?_) (fun h5 => ?_)
            · rw [hw] at h5
              repeat first | refine opsStep ?_ | refine codeStep ?_ | refine drawStep ?_
              refine decB_dec (fun h6 => ?_) (fun h6 => ?_)
              · rw [hw] at h6
                repeat first | refine VCode.ent ?_ (key 4 65536 ((bt s p : Int) - 240) (by omega) (by omega) (by omega) (by omega) (dec4 (by omega) (by omega))) | refine opsStep ?_ | refine codeStep ?_
                exact Ent.fr' ⟨(by kernel_rfl), (by kernel_rfl), (congrArg (AV.int .i64) ((congrArg (fun z => IntKind.wrap .i64 (z - 240)) hw).trans (cw 240 (by omega))) : _), (by kernel_rfl), (by kernel_rfl), trivial⟩ (by kernel_rfl)
              · rw [hw] at h6
                repeat first | refine opsStep ?_ | refine codeStep ?_ | refine drawStep ?_
                exact finV (v' := .tup [.int .i64 65533, .int .i64 1, .bool false]) (by kernel_rfl) (by rw [decX (by omega)]; simp)
            · exact absurd (hw ▸ h5) (by omega)
        · exact absurd (hw ▸ h3) (by omega)
    · rw [hw] at h1
      repeat first | refine opsStep ?_ | refine codeStep ?_ | refine drawStep ?_
      refine decB_dec (fun h3 => ?_) (fun h3 => ?_)
      · exact absurd (hw ▸ h3) (by omega)
      · repeat first | refine opsStep ?_ | refine codeStep ?_ | refine drawStep ?_
        refine decB_dec (fun h5 => ?_) (fun h5 => ?_)
        · exact absurd (hw ▸ h5) (by omega)
        · repeat first | refine opsStep ?_ | refine codeStep ?_ | refine drawStep ?_
          exact finV (v' := .tup [.int .i64 65533, .int .i64 1, .bool false]) (by kernel_rfl) (by rw [decX (by omega)]; simp)

attribute [irreducible] okd
end Tab

/- Lists compared. -/
namespace Tab
open Go Go.Proofs
set_option maxRecDepth 10000
set_option linter.unusedVariables false
set_option linter.unusedSimpArgs false
set_option linter.unusedSectionVars false

end Tab

/- Names, lists of names. -/
namespace Tab
open Go Go.Proofs
set_option maxRecDepth 10000
set_option linter.unusedVariables false
set_option linter.unusedSimpArgs false
set_option linter.unusedSectionVars false

def nmFrom (s : List UInt8) : Nat → Nat → Nat → Option Nat
  | 0, _, n => some n
  | f + 1, p, n => if p < s.length then (if ((decide (p = 0) && !startR (dec s p).1) || !restR (dec s p).1) = true then none else nmFrom s f (p + (dec s p).2) (n + 1)) else some n

def nameS (s : List UInt8) : Bool := match nmFrom s (s.length + 1) 0 0 with
  | none => false
  | some n => decide (0 < n) && decide (n ≤ 16) && !resS s

theorem dec_width (s : List UInt8) (p : Nat) : 1 ≤ (dec s p).2 ∧ (dec s p).2 ≤ 4 := by
  rw [dec_def]
  simp only []
  repeat' split
  all_goals simp

def NmInv (s : List UInt8) (x : Nat × Nat × Nat) : Prop :=
  nmFrom s (s.length + 1) 0 0 = nmFrom s x.2.2 x.1 x.2.1 ∧ s.length < x.1 + x.2.2 ∧ x.2.1 ≤ x.1 ∧ x.1 ≤ s.length + 3 ∧ (x.2.1 = 0 ↔ x.1 = 0)

theorem NmInv.step {s : List UInt8} {p n f : Nat} (h : NmInv s (p, n, f)) (hp : p < s.length) (hg : ((decide (p = 0) && !startR (dec s p).1) || !restR (dec s p).1) = false) : NmInv s (p + (dec s p).2, n + 1, f - 1) := by
  obtain ⟨h1, h2, h3, h4, h5⟩ := h
  have hw := dec_width s p
  simp only at h1 h2 h3 h4 h5
  refine ⟨?_, by simp only; omega, by simp only; omega, by simp only; omega, by simp only; omega⟩
  obtain ⟨f, rfl⟩ : ∃ k, f = k + 1 := ⟨f - 1, by omega⟩
  rw [h1, nmFrom, if_pos hp, if_neg (by rw [hg]; simp)]
  rfl
theorem NmInv.bad {s : List UInt8} {p n f : Nat} (h : NmInv s (p, n, f)) (hp : p < s.length) (hg : ((decide (p = 0) && !startR (dec s p).1) || !restR (dec s p).1) = true) : nameS s = false := by
  obtain ⟨h1, h2, h3, h4, h5⟩ := h
  simp only at h1 h2 h3 h4 h5
  obtain ⟨f, rfl⟩ : ∃ k, f = k + 1 := ⟨f - 1, by omega⟩
  have e : nmFrom s (f + 1) p n = none := by rw [nmFrom, if_pos hp, if_pos hg]
  rw [e] at h1
  simp [nameS, h1]
theorem NmInv.done {s : List UInt8} {p n f : Nat} (h : NmInv s (p, n, f)) (hp : ¬ p < s.length) : nameS s = (decide (0 < n) && decide (n ≤ 16) && !resS s) := by
  obtain ⟨h1, h2, h3, h4, h5⟩ := h
  simp only at h1 h2 h3 h4 h5
  have : nmFrom s f p n = some n := by
    cases f with
    | zero => rfl
    | succ f => rw [nmFrom, if_neg hp]
  rw [this] at h1
  simp [nameS, h1]

theorem glyph_Name (s : List UInt8) (hl : s.length < 2^62) : Pure Tryd.prog 109 [.str s] (.bool (nameS s)) := by
  refine Pure.of_sw 37 Tryd.func109 rfl Tryd.ntmps109 (by kernel_rfl) (Nat.le_of_ble_eq_true (by kernel_rfl)) (by simp [closeds, AV.closed, aSs_closed, aIs_closed, aBs_closed, aRs_closed, aDen_closed]) (by simp [AV.closed, closeds, aSs_closed, aIs_closed, aBs_closed, aRs_closed, aDen_closed]) ?_; refine SW.of_vc ?_
  repeat first | refine opsStep ?_ | refine codeStep ?_ | refine drawStep ?_
  refine loopE_of (ι := {x : Nat × Nat × Nat // NmInv s x}) (fun x => (fr [(0, .str s), (3, .int .i64 x.1.2.1), (7, .ref 0 0 0)], [.siter s x.1.1])) (fun x => s.length + 4 - x.1.1)
    ⟨(0, 0, s.length + 1), rfl, by simp, by simp, by simp, by simp⟩ (Ent.fr' ⟨(by kernel_rfl), (by kernel_rfl), (by kernel_rfl), trivial⟩ (by kernel_rfl)) ?_
  rintro ⟨⟨p, n, f⟩, hinv⟩
  have hw := dec_width s p
  have hinv' := hinv
  obtain ⟨-, -, hnp, hps, hn0⟩ := hinv'
  simp only at hnp hps hn0
  repeat first | refine opsStep ?_ | refine codeStep ?_ | refine drawStep ?_
  refine decB_dec (fun hp => ?_) (fun hp => ?_)
  · repeat first | refine opsStep ?_ | refine codeStep ?_ | refine drawStep ?_
    refine decB_split (fun h => ?_) (fun h => ?_)
    · repeat first | refine opsStep ?_ | refine codeStep ?_ | refine drawStep ?_
      refine callP (glyph_Start _) ?_
      repeat first | refine opsStep ?_ | refine codeStep ?_ | refine drawStep ?_
      refine decB_split (fun h => ?_) (fun h => ?_)
      · repeat first | refine opsStep ?_ | refine codeStep ?_ | refine drawStep ?_
        exact finB rfl (by rw [hinv.bad hp (by simp_all)])
      · repeat first | refine opsStep ?_ | refine codeStep ?_ | refine drawStep ?_
        refine callP (glyph_Rest _) ?_
        repeat first | refine opsStep ?_ | refine codeStep ?_ | refine drawStep ?_
        refine decB_split (fun h => ?_) (fun h => ?_)
        · repeat first | refine opsStep ?_ | refine codeStep ?_ | refine drawStep ?_
          exact finB rfl (by rw [hinv.bad hp (by simp_all)])
        · repeat first | refine opsStep ?_ | refine codeStep ?_ | refine drawStep ?_
          refine ⟨⟨(p + (dec s p).2, n + 1, f - 1), hinv.step hp (by simp_all)⟩, (by show s.length + 4 - (p + (dec s p).2) < s.length + 4 - p; have : p < s.length := hp; omega), Ent.fr' ⟨(by kernel_rfl), inc_slot (i := n) (by omega), (by kernel_rfl), trivial⟩ (by kernel_rfl)⟩
    · repeat first | refine opsStep ?_ | refine codeStep ?_ | refine drawStep ?_
      refine callP (glyph_Rest _) ?_
      repeat first | refine opsStep ?_ | refine codeStep ?_ | refine drawStep ?_
      refine decB_split (fun h => ?_) (fun h => ?_)
      · repeat first | refine opsStep ?_ | refine codeStep ?_ | refine drawStep ?_
        exact finB rfl (by rw [hinv.bad hp (by simp_all)])
      · repeat first | refine opsStep ?_ | refine codeStep ?_ | refine drawStep ?_
        refine ⟨⟨(p + (dec s p).2, n + 1, f - 1), hinv.step hp (by simp_all)⟩, (by show s.length + 4 - (p + (dec s p).2) < s.length + 4 - p; have : p < s.length := hp; omega), Ent.fr' ⟨(by kernel_rfl), inc_slot (i := n) (by omega), (by kernel_rfl), trivial⟩ (by kernel_rfl)⟩
  · repeat first | refine opsStep ?_ | refine codeStep ?_ | refine drawStep ?_
    refine decB_dec (fun h1 => ?_) (fun h1 => ?_)
    · repeat first | refine opsStep ?_ | refine codeStep ?_ | refine drawStep ?_
      refine decB_dec (fun h2 => ?_) (fun h2 => ?_)
      · repeat first | refine opsStep ?_ | refine codeStep ?_ | refine drawStep ?_
        refine callP (glyph_Reserved _) ?_
        repeat first | refine opsStep ?_ | refine codeStep ?_ | refine drawStep ?_
        exact finB rfl (by rw [hinv.done hp, decide_eq_true (show 0 < n by simp at h1; omega), decide_eq_true (show n ≤ 16 by simp at h2; omega)]; simp)
      · repeat first | refine opsStep ?_ | refine codeStep ?_ | refine drawStep ?_
        exact finB rfl (by rw [hinv.done hp, decide_eq_true (show 0 < n by simp at h1; omega), decide_eq_false (show ¬ n ≤ 16 by simp at h2; omega)]; simp)
    · repeat first | refine opsStep ?_ | refine codeStep ?_ | refine drawStep ?_
      exact finB rfl (by rw [hinv.done hp, decide_eq_false (show ¬ 0 < n by simp at h1; omega)]; simp)

theorem r04_Name (s : List UInt8) (hl : s.length < 2^62) : Pure Tryd.prog 84 [.str s] (.bool (nameS s)) := by
  refine Pure.of_sw 51 Tryd.func84 rfl Tryd.ntmps84 (by kernel_rfl) (Nat.le_of_ble_eq_true (by kernel_rfl)) (by simp [closeds, AV.closed, aSs_closed, aIs_closed, aBs_closed, aRs_closed, aDen_closed]) (by simp [AV.closed, closeds, aSs_closed, aIs_closed, aBs_closed, aRs_closed, aDen_closed]) ?_; refine SW.of_vc ?_
  repeat first | refine opsStep ?_ | refine codeStep ?_ | refine drawStep ?_
  refine loopE_of (ι := {x : Nat × Nat × Nat // NmInv s x}) (fun x => (fr [(0, .str s), (3, .int .i64 x.1.2.1), (4, .int .i64 x.1.1)], [])) (fun x => s.length + 4 - x.1.1)
    ⟨(0, 0, s.length + 1), rfl, by simp, by simp, by simp, by simp⟩ (Ent.fr' ⟨(by kernel_rfl), (by kernel_rfl), (by kernel_rfl), trivial⟩ (by kernel_rfl)) ?_
  rintro ⟨⟨p, n, f⟩, hinv⟩
  have hw := dec_width s p
  have hinv' := hinv
  obtain ⟨-, -, hnp, hps, hn0⟩ := hinv'
  simp only at hnp hps hn0
  repeat first | refine opsStep ?_ | refine codeStep ?_ | refine drawStep ?_
  refine decB_dec (fun hp0 => ?_) (fun hp0 => ?_)
  · have hp : p < s.length := by simpa using hp0
    repeat first | refine opsStep ?_ | refine codeStep ?_ | refine drawStep ?_
    refine callP (r04_Read s p hp hl) ?_
    have hbad : okd s p = false → nameS s = false := fun e => hinv.bad hp (by
      have e : dec s p = (65533, 1) := by rw [okd_eq] at e; simpa using e
      rw [e]; have : restR 65533 = false := by unfold restR startR; simp
      simp only [show ((65533, 1) : Nat × Nat).1 = 65533 from rfl]; rw [show ((65533 : Nat) : Int) = 65533 from rfl, this]; simp)
    repeat first | refine opsStep ?_ | refine codeStep ?_ | refine drawStep ?_
    refine decB_split (fun h => ?_) (fun h => ?_)
    · repeat first | refine opsStep ?_ | refine codeStep ?_ | refine drawStep ?_
      exact finB rfl (by rw [hbad (by simp_all)])
    · repeat first | refine opsStep ?_ | refine codeStep ?_ | refine drawStep ?_
      refine decB_split (fun h => ?_) (fun h => ?_)
      · repeat first | refine opsStep ?_ | refine codeStep ?_ | refine drawStep ?_
        refine callP (r04_Start _) ?_
        repeat first | refine opsStep ?_ | refine codeStep ?_ | refine drawStep ?_
        refine decB_split (fun h => ?_) (fun h => ?_)
        · repeat first | refine opsStep ?_ | refine codeStep ?_ | refine drawStep ?_
          exact finB rfl (by rw [hinv.bad hp (by simp_all)])
        · repeat first | refine opsStep ?_ | refine codeStep ?_ | refine drawStep ?_
          refine callP (r04_Rest _) ?_
          repeat first | refine opsStep ?_ | refine codeStep ?_ | refine drawStep ?_
          refine decB_split (fun h => ?_) (fun h => ?_)
          · repeat first | refine opsStep ?_ | refine codeStep ?_ | refine drawStep ?_
            exact finB rfl (by rw [hinv.bad hp (by simp_all)])
          · repeat first | refine opsStep ?_ | refine codeStep ?_ | refine drawStep ?_
            refine ⟨⟨(p + (dec s p).2, n + 1, f - 1), hinv.step hp (by simp_all)⟩, (by show s.length + 4 - (p + (dec s p).2) < s.length + 4 - p; omega), Ent.fr' ⟨(by kernel_rfl), inc_slot (i := n) (by omega), (congrArg (AV.int .i64) ((IntWalk.i64_in ((p : Int) + (dec s p).2) (by omega)).trans (Int.natCast_add _ _).symm) : _), trivial⟩ (by kernel_rfl)⟩
      · repeat first | refine opsStep ?_ | refine codeStep ?_ | refine drawStep ?_
        refine callP (r04_Rest _) ?_
        repeat first | refine opsStep ?_ | refine codeStep ?_ | refine drawStep ?_
        refine decB_split (fun h => ?_) (fun h => ?_)
        · repeat first | refine opsStep ?_ | refine codeStep ?_ | refine drawStep ?_
          exact finB rfl (by rw [hinv.bad hp (by simp_all)])
        · repeat first | refine opsStep ?_ | refine codeStep ?_ | refine drawStep ?_
          refine ⟨⟨(p + (dec s p).2, n + 1, f - 1), hinv.step hp (by simp_all)⟩, (by show s.length + 4 - (p + (dec s p).2) < s.length + 4 - p; omega), Ent.fr' ⟨(by kernel_rfl), inc_slot (i := n) (by omega), (congrArg (AV.int .i64) ((IntWalk.i64_in ((p : Int) + (dec s p).2) (by omega)).trans (Int.natCast_add _ _).symm) : _), trivial⟩ (by kernel_rfl)⟩
  · have hp : ¬ p < s.length := by simpa using hp0
    repeat first | refine opsStep ?_ | refine codeStep ?_ | refine drawStep ?_
    refine decB_dec (fun h1 => ?_) (fun h1 => ?_)
    · repeat first | refine opsStep ?_ | refine codeStep ?_ | refine drawStep ?_
      refine decB_dec (fun h2 => ?_) (fun h2 => ?_)
      · repeat first | refine opsStep ?_ | refine codeStep ?_ | refine drawStep ?_
        refine callP (r04_Reserved _) ?_
        repeat first | refine opsStep ?_ | refine codeStep ?_ | refine drawStep ?_
        exact finB rfl (by rw [hinv.done hp, decide_eq_true (show 0 < n by simp at h1; omega), decide_eq_true (show n ≤ 16 by simp at h2; omega)]; simp)
      · repeat first | refine opsStep ?_ | refine codeStep ?_ | refine drawStep ?_
        exact finB rfl (by rw [hinv.done hp, decide_eq_true (show 0 < n by simp at h1; omega), decide_eq_false (show ¬ n ≤ 16 by simp at h2; omega)]; simp)
    · repeat first | refine opsStep ?_ | refine codeStep ?_ | refine drawStep ?_
      exact finB rfl (by rw [hinv.done hp, decide_eq_false (show ¬ 0 < n by simp at h1; omega)]; simp)
attribute [irreducible] nameS
end Tab

/- Trees of terms and formulas: plain. -/
namespace Tab
open Go Go.Proofs
set_option maxRecDepth 10000
set_option linter.unusedVariables false
set_option linter.unusedSimpArgs false
set_option linter.unusedSectionVars false

inductive TT where
  | mk (op num : Int) (name : List UInt8) (k : SK) (args : List TT)
inductive FT where
  | mk (op : Int) (name : List UInt8) (md : Int) (tk : SK) (terms : List TT) (ak : SK) (args : List FT)
def TT.op : TT → Int | .mk op _ _ _ _ => op
def TT.num : TT → Int | .mk _ num _ _ _ => num
def TT.name : TT → List UInt8 | .mk _ _ name _ _ => name
def TT.k : TT → SK | .mk _ _ _ k _ => k
def TT.args : TT → List TT | .mk _ _ _ _ args => args
def FT.op : FT → Int | .mk op _ _ _ _ _ _ => op
def FT.name : FT → List UInt8 | .mk _ name _ _ _ _ _ => name
def FT.md : FT → Int | .mk _ _ md _ _ _ _ => md
def FT.tk : FT → SK | .mk _ _ _ tk _ _ _ => tk
def FT.terms : FT → List TT | .mk _ _ _ _ terms _ _ => terms
def FT.ak : FT → SK | .mk _ _ _ _ _ ak _ => ak
def FT.args : FT → List FT | .mk _ _ _ _ _ _ args => args

mutual
def TT.cells : TT → List AV
  | .mk op num name k args => [.int .i64 op, .int .i64 num, .str name, .sl k args.length (ttsC args)]
def ttsC : List TT → List AV
  | [] => []
  | t :: l => t.cells ++ ttsC l
end
theorem ttsC_flat : ∀ l : List TT, ttsC l = l.flatMap TT.cells
  | [] => rfl
  | t :: l => by rw [ttsC, ttsC_flat l, List.flatMap_cons]
mutual
def FT.cells : FT → List AV
  | .mk op name md tk terms ak args => [.int .i64 op, .str name, .int .i64 md, .sl tk terms.length (ttsC terms), .sl ak args.length (ftsC args)]
def ftsC : List FT → List AV
  | [] => []
  | t :: l => t.cells ++ ftsC l
end
theorem TT.cells_eq (t : TT) : t.cells = [.int .i64 t.op, .int .i64 t.num, .str t.name, .sl t.k t.args.length (ttsC t.args)] := by cases t; rw [TT.cells]; rfl
theorem FT.cells_eq (f : FT) : f.cells = [.int .i64 f.op, .str f.name, .int .i64 f.md, .sl f.tk f.terms.length (ttsC f.terms), .sl f.ak f.args.length (ftsC f.args)] := by cases f; rw [FT.cells]; rfl
theorem TT.cells_len (t : TT) : t.cells.length = 4 := by rw [TT.cells_eq]; rfl
theorem FT.cells_len (t : FT) : t.cells.length = 5 := by rw [FT.cells_eq]; rfl
mutual
theorem TT.cells_closed : ∀ t : TT, closeds t.cells
  | .mk op num name k args => by rw [TT.cells]; simp only [closeds, AV.closed, true_and, and_true]; exact ttsC_closed args
theorem ttsC_closed : ∀ l : List TT, closeds (ttsC l)
  | [] => by rw [ttsC]; simp only [closeds]
  | t :: l => by
    rw [ttsC, closeds_iff]
    intro a ha
    rcases List.mem_append.1 ha with h | h
    · exact closeds_iff.1 (TT.cells_closed t) a h
    · exact closeds_iff.1 (ttsC_closed l) a h
end
mutual
theorem FT.cells_closed : ∀ t : FT, closeds t.cells
  | .mk op name md tk terms ak args => by rw [FT.cells]; simp only [closeds, AV.closed, true_and, and_true]; exact ⟨ttsC_closed terms, ftsC_closed args⟩
theorem ftsC_closed : ∀ l : List FT, closeds (ftsC l)
  | [] => by rw [ftsC]; simp only [closeds]
  | t :: l => by
    rw [ftsC, closeds_iff]
    intro a ha
    rcases List.mem_append.1 ha with h | h
    · exact closeds_iff.1 (FT.cells_closed t) a h
    · exact closeds_iff.1 (ftsC_closed l) a h
end
theorem ttsC_len : ∀ l : List TT, (ttsC l).length = l.length * 4
  | [] => by rw [ttsC]; rfl
  | t :: l => by rw [ttsC, List.length_append, TT.cells_len, ttsC_len l, List.length_cons]; omega
theorem ftsC_len : ∀ l : List FT, (ftsC l).length = l.length * 5
  | [] => by rw [ftsC]; rfl
  | t :: l => by rw [ftsC, List.length_append, FT.cells_len, ftsC_len l, List.length_cons]; omega
theorem ttsC_at : ∀ {l : List TT} {i : Nat} (h : i < l.length), ((ttsC l).drop (i * 4)).take 4 = (l[i]'h).cells
  | t :: l, 0, h => by rw [ttsC, Nat.zero_mul, List.drop_zero, List.take_append_of_le_length (by rw [TT.cells_len]; omega), List.take_of_length_le (by rw [TT.cells_len]; omega)]; rfl
  | t :: l, i + 1, h => by
    rw [ttsC, show (i + 1) * 4 = 4 + i * 4 by omega, ← List.drop_drop, List.drop_left' (TT.cells_len t)]
    exact ttsC_at (by simpa using h)
theorem ftsC_at : ∀ {l : List FT} {i : Nat} (h : i < l.length), ((ftsC l).drop (i * 5)).take 5 = (l[i]'h).cells
  | t :: l, 0, h => by rw [ftsC, Nat.zero_mul, List.drop_zero, List.take_append_of_le_length (by rw [FT.cells_len]; omega), List.take_of_length_le (by rw [FT.cells_len]; omega)]; rfl
  | t :: l, i + 1, h => by
    rw [ftsC, show (i + 1) * 5 = 5 + i * 5 by omega, ← List.drop_drop, List.drop_left' (FT.cells_len t)]
    exact ftsC_at (by simpa using h)

def okI6 (n : Int) : Prop := -9223372036854775808 ≤ n ∧ n ≤ 9223372036854775807
mutual
def TT.ok : TT → Prop
  | .mk op num name k args => okI6 op ∧ okI6 num ∧ name.length ≤ 2 ^ 47 ∧ args.length * 48 ≤ 2 ^ 47 ∧ ttsOk args
def ttsOk : List TT → Prop
  | [] => True
  | t :: l => t.ok ∧ ttsOk l
end
theorem ttsOk_iff : ∀ {l : List TT}, ttsOk l ↔ ∀ t ∈ l, t.ok
  | [] => by rw [ttsOk]; simp
  | t :: l => by rw [ttsOk, ttsOk_iff]; simp
mutual
def FT.ok : FT → Prop
  | .mk op name md tk terms ak args => okI6 op ∧ name.length ≤ 2 ^ 47 ∧ okI6 md ∧ terms.length * 48 ≤ 2 ^ 47 ∧ ttsOk terms ∧ args.length * 48 ≤ 2 ^ 47 ∧ ftsOk args
def ftsOk : List FT → Prop
  | [] => True
  | t :: l => t.ok ∧ ftsOk l
end
theorem ftsOk_iff : ∀ {l : List FT}, ftsOk l ↔ ∀ t ∈ l, t.ok
  | [] => by rw [ftsOk]; simp
  | t :: l => by rw [ftsOk, ftsOk_iff]; simp

structure Ms where
  size : Nat
  depth : Nat
  err : Int
def nodeM (m : Ms) (d : Nat) (good : Bool) : Ms := ⟨m.size + 1, max m.depth d, if 500 < m.size + 1 then 73 else if 40 < d then 72 else if good = true then m.err else 3⟩
def goodT (t : TT) : Bool :=
  if t.op = 0 then decide (0 ≤ t.num) && decide (t.name = []) && decide (t.args.length = 0)
  else if t.op = 1 then decide (t.num = 0) && nameS t.name && decide (t.args.length = 0)
  else if t.op = 2 then decide (t.num = 0) && decide (t.name = []) && decide (t.args.length = 1)
  else if t.op = 3 ∨ t.op = 4 ∨ t.op = 5 then decide (t.num = 0) && decide (t.name = []) && decide (t.args.length = 2)
  else false
def goodF (f : FT) : Bool :=
  if f.op = 0 ∨ f.op = 1 then decide (f.name = []) && decide (f.md = 0) && decide (f.terms.length = 0) && decide (f.args.length = 0)
  else if f.op = 2 then decide (f.name = []) && decide (f.md = 0) && decide (f.terms.length = 0) && decide (f.args.length = 1)
  else if 3 ≤ f.op ∧ f.op ≤ 6 then decide (f.name = []) && decide (f.md = 0) && decide (f.terms.length = 0) && decide (f.args.length = 2)
  else if f.op = 7 ∨ f.op = 8 then nameS f.name && decide (f.md = 0) && decide (f.terms.length = 0) && decide (f.args.length = 1)
  else if 9 ≤ f.op ∧ f.op ≤ 14 then decide (f.name = []) && decide (f.md = 0) && decide (f.terms.length = 2) && decide (f.args.length = 0)
  else if f.op = 15 then decide (f.name = []) && decide (1 ≤ f.md) && decide (f.terms.length = 2) && decide (f.args.length = 0)
  else false
mutual
def TT.walk : TT → Nat → Ms → Ms
  | .mk op num name k args, d, m => if (nodeM m d (goodT (.mk op num name k args))).err ≠ 0 then nodeM m d (goodT (.mk op num name k args)) else ttsWalk args (d + 1) (nodeM m d (goodT (.mk op num name k args)))
def ttsWalk : List TT → Nat → Ms → Ms
  | [], _, m => m
  | t :: l, d, m => if (t.walk d m).err ≠ 0 then t.walk d m else ttsWalk l d (t.walk d m)
end
mutual
def FT.walk : FT → Nat → Ms → Ms
  | .mk op name md tk terms ak args, d, m =>
    if (nodeM m d (goodF (.mk op name md tk terms ak args))).err ≠ 0 then nodeM m d (goodF (.mk op name md tk terms ak args))
    else if (ttsWalk terms (d + 1) (nodeM m d (goodF (.mk op name md tk terms ak args)))).err ≠ 0 then ttsWalk terms (d + 1) (nodeM m d (goodF (.mk op name md tk terms ak args)))
    else ftsWalk args (d + 1) (ttsWalk terms (d + 1) (nodeM m d (goodF (.mk op name md tk terms ak args))))
def ftsWalk : List FT → Nat → Ms → Ms
  | [], _, m => m
  | t :: l, d, m => if (t.walk d m).err ≠ 0 then t.walk d m else ftsWalk l d (t.walk d m)
end
theorem TT.walk_eq (t : TT) (d : Nat) (m : Ms) : t.walk d m = if (nodeM m d (goodT t)).err ≠ 0 then nodeM m d (goodT t) else ttsWalk t.args (d + 1) (nodeM m d (goodT t)) := by cases t; rw [TT.walk]; rfl
theorem FT.walk_eq (f : FT) (d : Nat) (m : Ms) : f.walk d m = if (nodeM m d (goodF f)).err ≠ 0 then nodeM m d (goodF f)
    else if (ttsWalk f.terms (d + 1) (nodeM m d (goodF f))).err ≠ 0 then ttsWalk f.terms (d + 1) (nodeM m d (goodF f)) else ftsWalk f.args (d + 1) (ttsWalk f.terms (d + 1) (nodeM m d (goodF f))) := by cases f; rw [FT.walk]; rfl
def ms0 : Ms := ⟨0, 0, 0⟩
def chkT (t : TT) : Int := (t.walk 1 ms0).err
def chkF (f : FT) : Int := (f.walk 1 ms0).err

end Tab

/- Decoding: suffixes, widths, runs, counts. -/
namespace Tab
open Go Go.Proofs
set_option maxRecDepth 10000
set_option linter.unusedVariables false
set_option linter.unusedSimpArgs false
set_option linter.unusedSectionVars false

theorem bt_drop (s : List UInt8) (p i : Nat) : bt (s.drop p) i = bt s (p + i) := by simp [bt, List.getD_eq_getElem?_getD]
theorem ctb_drop (s : List UInt8) (p i : Nat) : ctb (s.drop p) i = ctb s (p + i) := by
  rw [ctb, ctb, bt_drop]
  congr 1
  simp only [List.length_drop]
  exact decide_eq_decide.2 (by omega)
theorem dec_drop (s : List UInt8) (p q : Nat) : dec (s.drop p) q = dec s (p + q) := by
  rw [dec_def, dec_def]
  simp only [bt_drop, ctb_drop, Nat.add_assoc]
theorem dec_fits {s : List UInt8} {p : Nat} (hp : p < s.length) : p + (dec s p).2 ≤ s.length := by
  have hc : ∀ i, ctb s i = true → i < s.length := fun i h => (ctb_iff.1 h).1
  rw [dec_def]
  simp only [Bool.and_eq_true]
  repeat' split
  all_goals simp only
  all_goals first
    | omega
    | (rename_i h _; have := hc _ h.2; omega)

def runL (p : Int → Bool) : Nat → List UInt8 → Nat
  | 0, _ => 0
  | f + 1, s => if s.length = 0 then 0 else if p (dec s 0).1 = true then (dec s 0).2 + runL p f (s.drop (dec s 0).2) else 0
def runS (p : Int → Bool) (s : List UInt8) : Nat := runL p s.length s
def chL : Nat → List UInt8 → Nat
  | 0, _ => 0
  | f + 1, s => if s.length = 0 then 0 else 1 + chL f (s.drop (dec s 0).2)
def chS (s : List UInt8) : Nat := chL s.length s

theorem runL_fuel (p : Int → Bool) : ∀ (f g : Nat) (s : List UInt8), s.length ≤ f → s.length ≤ g → runL p f s = runL p g s
  | 0, 0, _, _, _ => rfl
  | 0, g + 1, s, h, _ => by rw [runL, runL, if_pos (by omega)]
  | f + 1, 0, s, _, h => by rw [runL, runL, if_pos (by omega)]
  | f + 1, g + 1, s, h1, h2 => by
    rw [runL, runL]
    by_cases hs : s.length = 0
    · rw [if_pos hs, if_pos hs]
    · have hw := dec_width s 0
      rw [if_neg hs, if_neg hs, runL_fuel p f g (s.drop (dec s 0).2) (by simp; omega) (by simp; omega)]
theorem chL_fuel : ∀ (f g : Nat) (s : List UInt8), s.length ≤ f → s.length ≤ g → chL f s = chL g s
  | 0, 0, _, _, _ => rfl
  | 0, g + 1, s, h, _ => by rw [chL, chL, if_pos (by omega)]
  | f + 1, 0, s, _, h => by rw [chL, chL, if_pos (by omega)]
  | f + 1, g + 1, s, h1, h2 => by
    rw [chL, chL]
    by_cases hs : s.length = 0
    · rw [if_pos hs, if_pos hs]
    · have hw := dec_width s 0
      rw [if_neg hs, if_neg hs, chL_fuel f g (s.drop (dec s 0).2) (by simp; omega) (by simp; omega)]
theorem runS_nil {p s} (h : s.length = 0) : runS p s = 0 := by rw [runS, h]; rfl
theorem runS_no {p s} (h : p (dec s 0).1 = false) : runS p s = 0 := by
  rw [runS]
  cases e : s.length with
  | zero => rfl
  | succ n => rw [runL, if_neg (by omega), if_neg (by simp [h])]
theorem runS_yes {p s} (hs : s.length ≠ 0) (h : p (dec s 0).1 = true) : runS p s = (dec s 0).2 + runS p (s.drop (dec s 0).2) := by
  have hw := dec_width s 0
  rw [runS]
  cases e : s.length with
  | zero => exact absurd e hs
  | succ n => rw [runL, if_neg (by omega), if_pos h, runS, runL_fuel p n _ _ (by simp; omega) (Nat.le_refl _)]
theorem chS_nil {s} (h : s.length = 0) : chS s = 0 := by rw [chS, h]; rfl
theorem chS_step {s} (hs : s.length ≠ 0) : chS s = 1 + chS (s.drop (dec s 0).2) := by
  have hw := dec_width s 0
  rw [chS]
  cases e : s.length with
  | zero => exact absurd e hs
  | succ n => rw [chL, if_neg (by omega), chS, chL_fuel n _ _ (by simp; omega) (Nat.le_refl _)]
theorem runS_le (p : Int → Bool) : ∀ (n : Nat) (s : List UInt8), s.length = n → runS p s ≤ s.length := by
  intro n
  induction n using Nat.strongRecOn with
  | _ n ih =>
    intro s hn
    by_cases hs : s.length = 0
    · rw [runS_nil hs]; omega
    · cases h : p (dec s 0).1 with
      | false => rw [runS_no h]; omega
      | true =>
        have hw := dec_width s 0
        have hf := dec_fits (s := s) (p := 0) (by omega)
        have := ih (s.drop (dec s 0).2).length (by simp; omega) (s.drop (dec s 0).2) rfl
        rw [runS_yes hs h]
        simp at this
        omega
theorem chS_le : ∀ (n : Nat) (s : List UInt8), s.length = n → chS s ≤ s.length := by
  intro n
  induction n using Nat.strongRecOn with
  | _ n ih =>
    intro s hn
    by_cases hs : s.length = 0
    · rw [chS_nil hs]; omega
    · have hw := dec_width s 0
      have hf := dec_fits (s := s) (p := 0) (by omega)
      have := ih (s.drop (dec s 0).2).length (by simp; omega) (s.drop (dec s 0).2) rfl
      rw [chS_step hs]
      simp at this
      omega

theorem dec_ascii {s : List UInt8} {p : Nat} (h : bt s p < 128) : dec s p = (bt s p, 1) := by
  rw [dec_def, if_pos h]
theorem dec_small {s : List UInt8} {p : Nat} (h : (dec s p).1 < 128) : bt s p < 128 := by
  by_cases hb : bt s p < 128
  · exact hb
  · exfalso
    rw [dec_def, if_neg hb] at h
    simp only at h
    repeat' split at h
    all_goals first
      | (simp at h; done)
      | (rename_i hc; simp only [Bool.and_eq_true, decide_eq_true_eq, ge_iff_le] at hc; simp only at h; omega)

end Tab

/- Words of a formula's text: what the lexer reads. Plain. -/
namespace Tab
open Go
set_option maxRecDepth 10000
set_option linter.unusedVariables false
set_option linter.unusedSimpArgs false
set_option linter.unusedSectionVars false

abbrev Str := List UInt8
def blankR (r : Int) : Bool := decide (r = 32) || decide (r = 9) || decide (r = 10) || decide (r = 13)
def digR (r : Int) : Bool := decide (48 ≤ r) && decide (r ≤ 57)
def plainT : List (Int × Str) := [(8804, [60, 61]), (8805, [62, 61]), (8800, [33, 61]), (8801, [126]), (8722, [45]), (183, [42]), (8594, [45, 62]), (8596, [60, 45, 62]), (8743, [97, 110, 100]), (8744, [111, 114]), (172, [110, 111, 116]), (8707, [101, 120]), (8704, [97, 108, 108])]
def plainS (r : Int) : Str := ((plainT.find? fun p => decide (r = p.1)).map (·.2)).getD []
def signL : List Str := [[60, 45, 62], [60, 61], [62, 61], [33, 61], [45, 62], [40], [41], [91], [93], [44], [46], [43], [45], [42], [61], [60], [62], [126]]
def numL : Nat → Str → Option Nat
  | n, [] => some n
  | n, c :: t => if n > (9223372036854775807 - (c.toNat - 48)) / 10 then none else numL (10 * n + (c.toNat - 48)) t
def numS (t : Str) : Option Nat := numL 0 t
structure Tok where
  kind : Int
  text : Str
  num : Nat
  n : Nat
  err : Int
def tokBad (e : Int) : Tok := ⟨0, [], 0, 0, e⟩
def nameT (t : Str) (n : Nat) : Tok := if resS t = true then ⟨2, t, 0, n, 0⟩ else if 16 < chS t then ⟨0, [], 0, n, 6⟩ else ⟨0, t, 0, n, 0⟩
def signT (s : Str) : Tok := match signL.find? fun t => t.isPrefixOf s with
  | some t => ⟨2, t, 0, t.length, 0⟩
  | none => tokBad 51
def tokS (s : Str) : Tok :=
  if (dec s 0).1 = 65533 ∧ (dec s 0).2 ≤ 1 then tokBad 50
  else if startR (dec s 0).1 = true then nameT (s.take (runS restR s)) (runS restR s)
  else if digR (dec s 0).1 = true then (match numS (s.take (runS digR s)) with
    | some v => ⟨1, [], v, runS digR s, 0⟩
    | none => tokBad 52)
  else if plainS (dec s 0).1 ≠ [] then ⟨2, plainS (dec s 0).1, 0, (dec s 0).2, 0⟩
  else signT s
structure Wd where
  kind : Int
  text : Str
  num : Nat
  at' : Nat
  ch : Nat
structure Flt where
  why : Int
  at' : Nat
  ch : Nat
def flt0 : Flt := ⟨0, 0, 0⟩
def lexL (s : Str) : Nat → Nat → Nat → Nat → List Wd × Flt
  | 0, _, _, _ => ([], flt0)
  | f + 1, a, ch, ct => if s.length ≤ a then ([], flt0) else
    let c := ch + chS ((s.take a).drop ct)
    let t := tokS (s.drop a)
    if t.err ≠ 0 then ([], ⟨t.err, a, c⟩) else
    let r := lexL s f (a + t.n + runS blankR (s.drop (a + t.n))) c a
    if r.2.why ≠ 0 then ([], r.2) else (⟨t.kind, t.text, t.num, a, c⟩ :: r.1, r.2)
def lexS (s : Str) : List Wd × Flt := if 4096 < s.length then ([], ⟨70, 0, 0⟩) else lexL s (s.length + 1) (runS blankR s) 0 0

end Tab

/- The reader of formulas: plain. -/
namespace Tab
open Go
set_option maxRecDepth 10000
set_option linter.unusedVariables false
set_option linter.unusedSimpArgs false
set_option linter.unusedSectionVars false

structure Rs where
  ws : List Wd
  fl : Flt
def wd0 : Wd := ⟨0, [], 0, 0, 0⟩
def Rs.sign (r : Rs) : Str := match r.ws with | [] => [] | w :: _ => if w.kind = 2 then w.text else []
def Rs.wrong (e : Nat × Nat) (r : Rs) (why : Int) : Rs := if r.fl.why ≠ 0 then r else ⟨r.ws, match r.ws with | [] => ⟨why, e.1, e.2⟩ | w :: _ => ⟨why, w.at', w.ch⟩⟩
def Rs.take (r : Rs) (l : List Str) : Str × Rs := if r.fl.why = 0 ∧ r.sign ∈ l then (r.sign, ⟨r.ws.tail, r.fl⟩) else ([], r)
def Rs.need (e : Nat × Nat) (r : Rs) (s : Str) : Rs := if (r.take [s]).1 = [] then (r.take [s]).2.wrong e 71 else (r.take [s]).2
def Rs.hd (r : Rs) : Wd := r.ws.headD wd0
def Rs.word (e : Nat × Nat) (r : Rs) (k : Int) : Wd × Rs := if r.fl.why ≠ 0 ∨ r.ws = [] ∨ r.hd.kind ≠ k then (wd0, r.wrong e 71) else (r.hd, ⟨r.ws.tail, r.fl⟩)

def tAdd : Str := [43]
def tSub : Str := [45]
def tMul : Str := [42]
def tOpen : Str := [91]
def tClose : Str := [93]
mutual
def pT (e : Nat × Nat) : Nat → Rs → TT × Rs
  | 0, r => (.mk 0 0 [] .nil [], r)
  | n + 1, r => pTL e n (pP e n r)
def pTL (e : Nat × Nat) : Nat → TT × Rs → TT × Rs
  | 0, x => x
  | n + 1, x =>
    let k := x.2.take [tAdd, tSub]
    if k.1 = tAdd then pTL e n (.mk 3 0 [] .any [x.1, (pP e n k.2).1], (pP e n k.2).2)
    else if k.1 = tSub then pTL e n (.mk 4 0 [] .any [x.1, (pP e n k.2).1], (pP e n k.2).2)
    else (x.1, k.2)
def pP (e : Nat × Nat) : Nat → Rs → TT × Rs
  | 0, r => (.mk 0 0 [] .nil [], r)
  | n + 1, r => pPL e n (pFa e n r)
def pPL (e : Nat × Nat) : Nat → TT × Rs → TT × Rs
  | 0, x => x
  | n + 1, x =>
    let k := x.2.take [tMul]
    if k.1 ≠ [] then pPL e n (.mk 5 0 [] .any [x.1, (pFa e n k.2).1], (pFa e n k.2).2)
    else (x.1, k.2)
def pFa (e : Nat × Nat) : Nat → Rs → TT × Rs
  | 0, r => (.mk 0 0 [] .nil [], r)
  | n + 1, r =>
    let k := r.take [tOpen, tSub]
    if k.1 = tOpen then ((pT e n k.2).1, (pT e n k.2).2.need e tClose)
    else if k.1 = tSub then (.mk 2 0 [] .any [(pFa e n k.2).1], (pFa e n k.2).2)
    else if k.2.fl.why = 0 ∧ k.2.ws ≠ [] ∧ k.2.hd.kind = 0 then (.mk 1 0 (k.2.word e 0).1.text .nil [], (k.2.word e 0).2)
    else (.mk 0 (k.2.word e 1).1.num [] .nil [], (k.2.word e 1).2)
end

def fIff : Str := [60, 45, 62]
def fImp : Str := [45, 62]
def fOr : Str := [111, 114]
def fAnd : Str := [97, 110, 100]
def fNot : Str := [110, 111, 116]
def fEx : Str := [101, 120]
def fAll : Str := [97, 108, 108]
def fOpen : Str := [40]
def fClose : Str := [41]
def fTrue : Str := [116, 114, 117, 101]
def fFalse : Str := [102, 97, 108, 115, 101]
def fComma : Str := [44]
def fDot : Str := [46]
def fMod : Str := [109, 111, 100]
def unL : List Str := [fNot, fEx, fAll, fOpen, fTrue, fFalse]
def relL : List Str := [[60, 61], [60], [62, 61], [62], [61], [33, 61], [126]]
def relO (s : Str) : Int := if s = [60, 61] then 9 else if s = [60] then 10 else if s = [62, 61] then 11 else if s = [62] then 12 else if s = [61] then 13 else if s = [33, 61] then 14 else 15
def twoF (op : Int) (a b : FT) : FT := .mk op [] 0 .nil [] .any [a, b]
def oneF (op : Int) (name : Str) (a : FT) : FT := .mk op name 0 .nil [] .any [a]
def nilF (op : Int) : FT := .mk op [] 0 .nil [] .nil []
def modS (e : Nat × Nat) (r : Rs) : Nat × Rs :=
  let r1 := r.need e fMod
  let r2 := if r1.fl.why = 0 ∧ r1.ws ≠ [] ∧ r1.hd.kind = 1 ∧ r1.hd.num = 0 then r1.wrong e 92 else r1
  ((r2.word e 1).1.num, (r2.word e 1).2)
def pAt (e : Nat × Nat) (n : Nat) (r : Rs) : FT × Rs :=
  let a := pT e n r
  let k := a.2.take relL
  let r1 := if k.1 = [] then k.2.wrong e 71 else k.2
  let b := pT e n r1
  if relO k.1 = 15 then (.mk 15 [] (modS e b.2).1 .any [a.1, b.1] .nil [], (modS e b.2).2)
  else (.mk (relO k.1) [] 0 .any [a.1, b.1] .nil [], b.2)
mutual
def pF (e : Nat × Nat) : Nat → Rs → FT × Rs
  | 0, r => (nilF 0, r)
  | n + 1, r => pFL e n (pI e n r)
def pFL (e : Nat × Nat) : Nat → FT × Rs → FT × Rs
  | 0, x => x
  | n + 1, x =>
    let k := x.2.take [fIff]
    if k.1 ≠ [] then pFL e n (twoF 6 x.1 (pI e n k.2).1, (pI e n k.2).2) else (x.1, k.2)
def pI (e : Nat × Nat) : Nat → Rs → FT × Rs
  | 0, r => (nilF 0, r)
  | n + 1, r =>
    let a := pO e n r
    let k := a.2.take [fImp]
    if k.1 ≠ [] then (twoF 5 a.1 (pI e n k.2).1, (pI e n k.2).2) else (a.1, k.2)
def pO (e : Nat × Nat) : Nat → Rs → FT × Rs
  | 0, r => (nilF 0, r)
  | n + 1, r => pOL e n (pA e n r)
def pOL (e : Nat × Nat) : Nat → FT × Rs → FT × Rs
  | 0, x => x
  | n + 1, x =>
    let k := x.2.take [fOr]
    if k.1 ≠ [] then pOL e n (twoF 4 x.1 (pA e n k.2).1, (pA e n k.2).2) else (x.1, k.2)
def pA (e : Nat × Nat) : Nat → Rs → FT × Rs
  | 0, r => (nilF 0, r)
  | n + 1, r => pAL e n (pU e n r)
def pAL (e : Nat × Nat) : Nat → FT × Rs → FT × Rs
  | 0, x => x
  | n + 1, x =>
    let k := x.2.take [fAnd]
    if k.1 ≠ [] then pAL e n (twoF 3 x.1 (pU e n k.2).1, (pU e n k.2).2) else (x.1, k.2)
def pU (e : Nat × Nat) : Nat → Rs → FT × Rs
  | 0, r => (nilF 0, r)
  | n + 1, r =>
    let k := r.take unL
    if k.1 = fNot then (oneF 2 [] (pU e n k.2).1, (pU e n k.2).2)
    else if k.1 = fEx then pQ e n 7 k.2
    else if k.1 = fAll then pQ e n 8 k.2
    else if k.1 = fOpen then ((pF e n k.2).1, (pF e n k.2).2.need e fClose)
    else if k.1 = fTrue then (nilF 0, k.2)
    else if k.1 = fFalse then (nilF 1, k.2)
    else pAt e n k.2
def pQ (e : Nat × Nat) : Nat → Int → Rs → FT × Rs
  | 0, _, r => (nilF 0, r)
  | n + 1, op, r =>
    let w := r.word e 0
    let k := w.2.take [fComma]
    if k.1 ≠ [] then (oneF op w.1.text (pQ e n op k.2).1, (pQ e n op k.2).2)
    else (oneF op w.1.text (pU e n (k.2.need e fDot)).1, (pU e n (k.2.need e fDot)).2)
end

def Rs.done (e : Nat × Nat) (r : Rs) : Rs := if r.ws ≠ [] then r.wrong e 71 else r
def endS (s : Str) : Nat × Nat := (s.length, chS s)
def rs0 (s : Str) : Rs := ⟨(lexS s).1, (lexS s).2⟩
def readT (s : Str) : TT × Rs := pT (endS s) (16 * (rs0 s).ws.length + 16) (rs0 s)
def parT (s : Str) : TT × Flt :=
  let x := readT s
  let f := (x.2.done (endS s)).fl
  if f.why ≠ 0 then (.mk 0 0 [] .nil [], f) else if chkT x.1 ≠ 0 then (.mk 0 0 [] .nil [], ⟨chkT x.1, f.at', f.ch⟩) else (x.1, ⟨0, f.at', f.ch⟩)

theorem wrong_ws (e : Nat × Nat) (r : Rs) (y : Int) : (r.wrong e y).ws = r.ws := by unfold Rs.wrong; split <;> rfl
theorem take_ws (r : Rs) (l : List Str) (h0 : [] ∉ l) : (r.take l).2.ws.length + (if (r.take l).1 = [] then 0 else 1) ≤ r.ws.length := by
  unfold Rs.take
  by_cases h : r.fl.why = 0 ∧ r.sign ∈ l
  · rw [if_pos h]
    have hs : r.sign ≠ [] := fun h' => h0 (h' ▸ h.2)
    rw [if_neg hs]
    cases hw : r.ws with
    | nil => exact absurd (by rw [Rs.sign, hw]) hs
    | cons w l => simp
  · rw [if_neg h]; simp
theorem take_le (r : Rs) (l : List Str) : (r.take l).2.ws.length ≤ r.ws.length := by
  unfold Rs.take
  by_cases h : r.fl.why = 0 ∧ r.sign ∈ l
  · rw [if_pos h]; simp
  · rw [if_neg h]; simp
theorem take_lt {r : Rs} {l : List Str} (h0 : [] ∉ l) (h : (r.take l).1 ≠ []) : (r.take l).2.ws.length < r.ws.length := by
  have := take_ws r l h0
  rw [if_neg h] at this
  omega
theorem need_le (e : Nat × Nat) (r : Rs) (s : Str) : (r.need e s).ws.length ≤ r.ws.length := by
  unfold Rs.need
  split
  · rw [wrong_ws]; exact take_le _ _
  · exact take_le _ _
theorem word_le (e : Nat × Nat) (r : Rs) (k : Int) : (r.word e k).2.ws.length ≤ r.ws.length := by
  unfold Rs.word
  split
  · rw [wrong_ws]; exact Nat.le_refl _
  · simp
theorem terms_le (e : Nat × Nat) : ∀ n, (∀ r, (pT e n r).2.ws.length ≤ r.ws.length) ∧ (∀ x, (pTL e n x).2.ws.length ≤ x.2.ws.length) ∧ (∀ r, (pP e n r).2.ws.length ≤ r.ws.length) ∧ (∀ x, (pPL e n x).2.ws.length ≤ x.2.ws.length) ∧ (∀ r, (pFa e n r).2.ws.length ≤ r.ws.length)
  | 0 => ⟨fun _ => by rw [pT]; exact Nat.le_refl _, fun _ => by rw [pTL]; exact Nat.le_refl _, fun _ => by rw [pP]; exact Nat.le_refl _, fun _ => by rw [pPL]; exact Nat.le_refl _, fun _ => by rw [pFa]; exact Nat.le_refl _⟩
  | n + 1 => by
    obtain ⟨i1, i2, i3, i4, i5⟩ := terms_le e n
    refine ⟨fun r => ?_, fun x => ?_, fun r => ?_, fun x => ?_, fun r => ?_⟩
    · rw [pT]; exact Nat.le_trans (i2 _) (i3 r)
    · have h := take_le x.2 [tAdd, tSub]
      rw [pTL]
      try simp only
      split
      · exact Nat.le_trans (i2 _) (Nat.le_trans (i3 _) h)
      split
      · exact Nat.le_trans (i2 _) (Nat.le_trans (i3 _) h)
      · exact h
    · rw [pP]; exact Nat.le_trans (i4 _) (i5 r)
    · have h := take_le x.2 [tMul]
      rw [pPL]
      try simp only
      split
      · exact Nat.le_trans (i4 _) (Nat.le_trans (i5 _) h)
      · exact h
    · have h := take_le r [tOpen, tSub]
      rw [pFa]
      try simp only
      split
      · exact Nat.le_trans (need_le _ _ _) (Nat.le_trans (i1 _) h)
      split
      · exact Nat.le_trans (i5 _) h
      split
      · exact Nat.le_trans (word_le _ _ _) h
      · exact Nat.le_trans (word_le _ _ _) h
end Tab

/- Characters: blanks, digits, plain ones; runs of characters, how many there are; what a text begins with. -/
namespace Tab
open Go Go.Proofs
set_option maxRecDepth 10000
set_option linter.unusedVariables false
set_option linter.unusedSimpArgs false
set_option linter.unusedSectionVars false

theorem glyph_Blank (r : Int) : Pure Tryd.prog 86 [.int .i32 r] (.bool (blankR r)) := by
  refine Pure.of_sw 17 Tryd.func86 rfl Tryd.ntmps86 (by kernel_rfl) (Nat.le_of_ble_eq_true (by kernel_rfl)) (by simp [closeds, AV.closed, aSs_closed, aIs_closed, aBs_closed, aRs_closed, aDen_closed]) (by simp [AV.closed, closeds, aSs_closed, aIs_closed, aBs_closed, aRs_closed, aDen_closed]) ?_; refine SW.of_vc ?_
  repeat' first | refine opsStep ?_ | refine codeStep ?_ | refine decB_split (fun h => ?_) (fun h => ?_)
  all_goals exact finB rfl (by simp at *; simp [blankR]; omega)

theorem lex_digit (r : Int) : Pure Tryd.prog 115 [.int .i32 r] (.bool (digR r)) := by
  refine Pure.of_sw 9 Tryd.func115 rfl Tryd.ntmps115 (by kernel_rfl) (Nat.le_of_ble_eq_true (by kernel_rfl)) (by simp [closeds, AV.closed, aSs_closed, aIs_closed, aBs_closed, aRs_closed, aDen_closed]) (by simp [AV.closed, closeds, aSs_closed, aIs_closed, aBs_closed, aRs_closed, aDen_closed]) ?_; refine SW.of_vc ?_
  repeat' first | refine opsStep ?_ | refine codeStep ?_ | refine decB_split (fun h => ?_) (fun h => ?_)
  all_goals exact finB rfl (by simp at *; simp [digR]; omega)

theorem lex_run (s : Str) (f : FuncId) (p : Int → Bool) (hl : s.length < 2^62) (hf : ∀ r : Int, Pure Tryd.prog f [.int .i32 r] (.bool (p r))) : Pure Tryd.prog 85 [.str s, .fn (.func f) [] []] (.int .i64 (runS p s)) := by
  refine Pure.of_sw 20 Tryd.func85 rfl Tryd.ntmps85 (by kernel_rfl) (Nat.le_of_ble_eq_true (by kernel_rfl)) (by simp [closeds, AV.closed, aSs_closed, aIs_closed, aBs_closed, aRs_closed, aDen_closed]) (by simp [AV.closed, closeds, aSs_closed, aIs_closed, aBs_closed, aRs_closed, aDen_closed]) ?_; refine SW.of_vc ?_
  repeat first | refine opsStep ?_ | refine codeStep ?_ | refine drawStep ?_
  refine loopE_of (ι := {a : Nat // runS p s = a + runS p (s.drop a) ∧ a ≤ s.length}) (fun a => (fr [(0, .str s), (1, .fn (.func f) [] []), (8, .ref 0 0 0)], [.siter s a.1])) (fun a => s.length - a.1)
    ⟨0, by rw [List.drop_zero, Nat.zero_add], Nat.zero_le _⟩ (Ent.fr' ⟨(by kernel_rfl), (by kernel_rfl), (by kernel_rfl), trivial⟩ (by kernel_rfl)) ?_
  rintro ⟨a, h1, h2⟩
  have hw := dec_width s a
  have e0 : dec (s.drop a) 0 = dec s a := by rw [dec_drop, Nat.add_zero]
  repeat first | refine opsStep ?_ | refine codeStep ?_ | refine drawStep ?_
  refine decB_dec (fun hp => ?_) (fun hp => ?_)
  · have hp' : a < s.length := hp
    have hfit := dec_fits hp'
    have hne : (s.drop a).length ≠ 0 := by rw [List.length_drop]; omega
    repeat first | refine opsStep ?_ | refine codeStep ?_ | refine drawStep ?_
    refine callP (hf _) ?_
    repeat first | refine opsStep ?_ | refine codeStep ?_ | refine drawStep ?_
    refine decB_split (fun h => ?_) (fun h => ?_)
    · repeat first | refine opsStep ?_ | refine codeStep ?_ | refine drawStep ?_
      exact finV (v' := .int .i64 a) (by kernel_rfl) (by rw [h1, runS_no (by rw [e0]; simpa using h), Nat.add_zero])
    · repeat first | refine opsStep ?_ | refine codeStep ?_ | refine drawStep ?_
      exact ⟨⟨a + (dec s a).2, by rw [h1, runS_yes hne (by rw [e0]; simpa using h), e0, List.drop_drop, Nat.add_assoc], hfit⟩, (by show s.length - (a + (dec s a).2) < s.length - a; omega), Ent.fr' ⟨(by kernel_rfl), (by kernel_rfl), (by kernel_rfl), trivial⟩ (by kernel_rfl)⟩
  · have hp' : ¬ a < s.length := hp
    repeat first | refine opsStep ?_ | refine codeStep ?_ | refine drawStep ?_
    exact finV (v' := .int .i64 s.length) (by kernel_rfl) (by rw [h1, runS_nil (by rw [List.length_drop]; omega)]; congr 1; omega)

theorem runeCount (s : Str) (hl : s.length < 2^62) : Pure Tryd.prog 60 [.str s] (.int .i64 (chS s)) := by
  refine Pure.of_sw 10 Tryd.func60 rfl Tryd.ntmps60 (by kernel_rfl) (Nat.le_of_ble_eq_true (by kernel_rfl)) (by simp [closeds, AV.closed, aSs_closed, aIs_closed, aBs_closed, aRs_closed, aDen_closed]) (by simp [AV.closed, closeds, aSs_closed, aIs_closed, aBs_closed, aRs_closed, aDen_closed]) ?_; refine SW.of_vc ?_
  repeat first | refine opsStep ?_ | refine codeStep ?_ | refine drawStep ?_
  refine loopE_of (ι := {x : Nat × Nat // chS s = x.2 + chS (s.drop x.1) ∧ x.1 ≤ s.length ∧ x.2 ≤ x.1}) (fun x => (fr [(2, .int .i64 x.1.2), (4, .ref 0 0 0)], [.siter s x.1.1])) (fun x => s.length - x.1.1)
    ⟨(0, 0), by simp, Nat.zero_le _, Nat.zero_le _⟩ (Ent.fr' ⟨(by kernel_rfl), (by kernel_rfl), trivial⟩ (by kernel_rfl)) ?_
  rintro ⟨⟨a, n⟩, h1, h2, h3⟩
  simp only at h1 h2 h3
  have hw := dec_width s a
  have e0 : dec (s.drop a) 0 = dec s a := by rw [dec_drop, Nat.add_zero]
  repeat first | refine opsStep ?_ | refine codeStep ?_ | refine drawStep ?_
  refine decB_dec (fun hp => ?_) (fun hp => ?_)
  · have hp' : a < s.length := hp
    have hfit := dec_fits hp'
    have hne : (s.drop a).length ≠ 0 := by rw [List.length_drop]; omega
    repeat first | refine opsStep ?_ | refine codeStep ?_ | refine drawStep ?_
    exact ⟨⟨(a + (dec s a).2, n + 1), by simp only; rw [h1, chS_step hne, e0, List.drop_drop, Nat.add_assoc], hfit, by simp only; omega⟩, (by show s.length - (a + (dec s a).2) < s.length - a; omega), Ent.fr' ⟨inc_slot (i := n) (by omega), (by kernel_rfl), trivial⟩ (by kernel_rfl)⟩
  · have hp' : ¬ a < s.length := hp
    repeat first | refine opsStep ?_ | refine codeStep ?_ | refine drawStep ?_
    exact finV (v' := .int .i64 n) (by kernel_rfl) (by rw [h1, chS_nil (by rw [List.length_drop]; omega), Nat.add_zero])

theorem sl_HasPrefix (s t : Str) (hs : s.length < 2^62) (ht : t.length < 2^62) : Pure Tryd.prog 135 [.str s, .str t] (.bool (t.isPrefixOf s)) := by
  have key : t.isPrefixOf s = (decide (t.length ≤ s.length) && decide (s.take t.length = t)) := by
    rw [Bool.eq_iff_iff, List.isPrefixOf_iff_prefix, List.prefix_iff_eq_take, Bool.and_eq_true, decide_eq_true_eq, decide_eq_true_eq]
    constructor
    · intro h
      refine ⟨?_, h.symm⟩
      have := congrArg List.length h
      rw [List.length_take] at this
      omega
    · exact fun h => h.2.symm
  rw [key]
  refine Pure.of_sw 18 Tryd.func135 rfl Tryd.ntmps135 (by kernel_rfl) (Nat.le_of_ble_eq_true (by kernel_rfl)) (by simp [closeds, AV.closed, aSs_closed, aIs_closed, aBs_closed, aRs_closed, aDen_closed]) (by simp [AV.closed, closeds, aSs_closed, aIs_closed, aBs_closed, aRs_closed, aDen_closed]) ?_; refine SW.of_vc ?_
  repeat' first | refine opsStep ?_ | refine codeStep ?_ | refine decB_split (fun h => ?_) (fun h => ?_)
  · refine guardE_of (by simp at h ⊢; omega) ?_
    repeat first | refine opsStep ?_ | refine codeStep ?_ | refine drawStep ?_
    refine finB (b' := decide (s.take t.length = t)) (by kernel_rfl) ?_
    have : t.length ≤ s.length := by simp at h; omega
    simp [this]
  · refine finB (b' := false) (by kernel_rfl) ?_
    have : ¬ t.length ≤ s.length := by simp at h; omega
    simp [this]
theorem hasPrefix (s t : Str) (hs : s.length < 2^62) (ht : t.length < 2^62) : Pure Tryd.prog 119 [.str s, .str t] (.bool (t.isPrefixOf s)) := by
  refine Pure.of_sw 8 Tryd.func119 rfl Tryd.ntmps119 (by kernel_rfl) (Nat.le_of_ble_eq_true (by kernel_rfl)) (by simp [closeds, AV.closed, aSs_closed, aIs_closed, aBs_closed, aRs_closed, aDen_closed]) (by simp [AV.closed, closeds, aSs_closed, aIs_closed, aBs_closed, aRs_closed, aDen_closed]) ?_; refine SW.of_vc ?_
  repeat first | refine opsStep ?_ | refine codeStep ?_ | refine drawStep ?_
  refine callP (sl_HasPrefix s t hs ht) ?_
  repeat first | refine opsStep ?_ | refine codeStep ?_ | refine drawStep ?_
  exact finB (by kernel_rfl) rfl

theorem plain_none {r : Int} (h : ∀ p ∈ plainT, r ≠ p.1) : plainS r = [] := by
  rw [plainS, List.find?_eq_none.2 (fun p hp => by simpa using h p hp)]
  rfl
theorem glyph_Plain (r : Int) : Pure Tryd.prog 117 [.int .i32 r] (.str (plainS r)) := by
  refine Pure.of_sw 30 Tryd.func117 rfl Tryd.ntmps117 (by kernel_rfl) (Nat.le_of_ble_eq_true (by kernel_rfl)) (by simp [closeds, AV.closed, aSs_closed, aIs_closed, aBs_closed, aRs_closed, aDen_closed]) (by simp [AV.closed, closeds, aSs_closed, aIs_closed, aBs_closed, aRs_closed, aDen_closed]) ?_; refine SW.of_vc ?_
  repeat' first | refine opsStep ?_ | refine codeStep ?_ | refine decB_split (fun h => ?_) (fun h => ?_)
  all_goals first
    | (have e := of_decide_eq_true h; subst e; exact finV rfl (congrArg AV.str (by decide)))
    | exact finV (v' := .str []) rfl (congrArg AV.str (plain_none (by simp [plainT]; simp_all)).symm)

end Tab

/- Decoding at cuts: plain. -/
namespace Tab
open Go
set_option maxRecDepth 10000
set_option linter.unusedVariables false
set_option linter.unusedSimpArgs false
set_option linter.unusedSectionVars false

theorem bt_take {s : Str} {m i : Nat} (h : i < m) : bt (s.take m) i = bt s i := by
  rw [bt, bt, List.getD_eq_getElem?_getD, List.getD_eq_getElem?_getD, List.getElem?_take_of_lt h]
theorem ctb_take {s : Str} {m i : Nat} (h : i < m) : ctb (s.take m) i = ctb s i := by
  rw [ctb, ctb, bt_take h, List.length_take]
  congr 1
  exact decide_eq_decide.2 (by omega)
theorem ctb_cut {s : Str} {m i : Nat} (h : m ≤ i) : ctb (s.take m) i = false := by
  rw [ctb, decide_eq_false (by rw [List.length_take]; omega)]; rfl
theorem dec_take {s : Str} {m p : Nat} (hm : p + (dec s p).2 ≤ m) : dec (s.take m) p = dec s p := by
  have hw := (dec_width s p).1
  have hp : p < m := by omega
  rw [dec_def (s.take m), bt_take hp]
  rw [dec_def s] at hm
  by_cases h0 : bt s p < 0x80
  · rw [if_pos h0, dec_def s, if_pos h0]
  rw [if_neg h0] at hm
  rw [if_neg h0, dec_def s, if_neg h0]
  have cut : ∀ i, ctb (s.take m) i = true → ctb s i = true := fun i h => by
    by_cases e : i < m
    · rwa [ctb_take e] at h
    · rw [ctb_cut (by omega)] at h; cases h
  have one : ∀ {b : Bool} {x y : Nat × Nat}, b = true → (if b = true then x else y) = x := fun h => by rw [if_pos h]
  by_cases h1 : (bt s p / 32 == 6 && ctb s (p + 1)) = true
  · rw [if_pos h1] at hm ⊢
    by_cases hc : (bt s p % 32) * 64 + bt s (p + 1) % 64 ≥ 0x80
    · simp only [if_pos hc] at hm ⊢
      rw [bt_take (by omega), ctb_take (by omega), if_pos h1, if_pos hc]
    · simp only [if_neg hc] at hm ⊢
      by_cases e : p + 1 < m
      · rw [bt_take e, ctb_take e, if_pos h1, if_neg hc]
      · simp only [ctb_cut (s := s) (m := m) (i := p + 1) (by omega), Bool.and_false, Bool.false_and, Bool.false_eq_true, if_false]
  · have h1' : ¬ (bt s p / 32 == 6 && ctb (s.take m) (p + 1)) = true := fun h => h1 (by
      simp only [Bool.and_eq_true] at h ⊢; exact ⟨h.1, cut _ h.2⟩)
    rw [if_neg h1] at hm ⊢
    rw [if_neg h1']
    by_cases h2 : (bt s p / 16 == 14 && ctb s (p + 1) && ctb s (p + 2)) = true
    · rw [if_pos h2] at hm ⊢
      by_cases hc : (decide ((bt s p % 16) * 4096 + (bt s (p + 1) % 64) * 64 + bt s (p + 2) % 64 ≥ 0x800) && okc ((bt s p % 16) * 4096 + (bt s (p + 1) % 64) * 64 + bt s (p + 2) % 64)) = true
      · simp only [if_pos hc] at hm ⊢
        rw [bt_take (show p + 1 < m by omega), ctb_take (show p + 1 < m by omega), bt_take (show p + 2 < m by omega), ctb_take (show p + 2 < m by omega), if_pos h2, if_pos hc]
      · simp only [if_neg hc] at hm ⊢
        by_cases e : p + 2 < m
        · rw [bt_take (show p + 1 < m by omega), ctb_take (show p + 1 < m by omega), bt_take e, ctb_take e, if_pos h2, if_neg hc]
        · have h8 : (bt s p / 16 == 14) = true := by simp only [Bool.and_eq_true] at h2; exact h2.1.1
          have h9 : (bt s p / 8 == 30) = false := by
            rw [beq_iff_eq] at h8; rw [beq_eq_false_iff_ne]; omega
          simp only [ctb_cut (s := s) (m := m) (i := p + 2) (by omega), h9, Bool.and_false, Bool.false_and, Bool.false_eq_true, if_false]
    · have h2' : ¬ (bt s p / 16 == 14 && ctb (s.take m) (p + 1) && ctb (s.take m) (p + 2)) = true := fun h => h2 (by
        simp only [Bool.and_eq_true] at h ⊢; exact ⟨⟨h.1.1, cut _ h.1.2⟩, cut _ h.2⟩)
      rw [if_neg h2] at hm ⊢
      rw [if_neg h2']
      by_cases h3 : (bt s p / 8 == 30 && ctb s (p + 1) && ctb s (p + 2) && ctb s (p + 3)) = true
      · rw [if_pos h3] at hm ⊢
        by_cases hc : (decide ((bt s p % 8) * 262144 + (bt s (p + 1) % 64) * 4096 + (bt s (p + 2) % 64) * 64 + bt s (p + 3) % 64 ≥ 0x10000) && okc ((bt s p % 8) * 262144 + (bt s (p + 1) % 64) * 4096 + (bt s (p + 2) % 64) * 64 + bt s (p + 3) % 64)) = true
        · simp only [if_pos hc] at hm ⊢
          rw [bt_take (show p + 1 < m by omega), ctb_take (show p + 1 < m by omega), bt_take (show p + 2 < m by omega), ctb_take (show p + 2 < m by omega), bt_take (show p + 3 < m by omega), ctb_take (show p + 3 < m by omega), if_pos h3, if_pos hc]
        · simp only [if_neg hc] at hm ⊢
          by_cases e : p + 3 < m
          · rw [bt_take (show p + 1 < m by omega), ctb_take (show p + 1 < m by omega), bt_take (show p + 2 < m by omega), ctb_take (show p + 2 < m by omega), bt_take e, ctb_take e, if_pos h3, if_neg hc]
          · simp only [ctb_cut (s := s) (m := m) (i := p + 3) (by omega), Bool.and_false, Bool.false_and, Bool.false_eq_true, if_false]
      · have h3' : ¬ (bt s p / 8 == 30 && ctb (s.take m) (p + 1) && ctb (s.take m) (p + 2) && ctb (s.take m) (p + 3)) = true := fun h => h3 (by
          simp only [Bool.and_eq_true] at h ⊢; exact ⟨⟨⟨h.1.1.1, cut _ h.1.1.2⟩, cut _ h.1.2⟩, cut _ h.2⟩)
        rw [if_neg h3] at hm ⊢
        rw [if_neg h3']
theorem dec_stop {s : Str} {m p : Nat} (hp : p < m) (hm : bt s m < 128) : p + (dec s p).2 ≤ m := by
  have hc : ∀ i, ctb s i = true → i ≠ m := fun i h e => by
    have := (ctb_iff.1 h).2
    subst e; omega
  rw [dec_def]
  simp only [Bool.and_eq_true]
  repeat' split
  all_goals simp only
  all_goals first
    | omega
    | (rename_i h _; have h1 := hc _ h.2; omega)
    | (rename_i h _; have h1 := hc _ h.2; have h2 := hc _ h.1.2; omega)
    | (rename_i h _; have h1 := hc _ h.2; have h2 := hc _ h.1.2; have h3 := hc _ h.1.1.2; omega)

end Tab

/- Runs and counts of characters at cuts: plain. -/
namespace Tab
open Go
set_option maxRecDepth 10000
set_option linter.unusedVariables false
set_option linter.unusedSimpArgs false
set_option linter.unusedSectionVars false

theorem dec_cut {s : Str} {m p : Nat} (h1 : p < m) (h2 : m < p + (dec s p).2) : dec (s.take m) p = (65533, 1) := by
  rw [dec_def (s.take m), bt_take h1]
  rw [dec_def s] at h2
  by_cases h0 : bt s p < 0x80
  · rw [if_pos h0] at h2; simp only at h2; omega
  rw [if_neg h0] at h2 ⊢
  by_cases e1 : (bt s p / 32 == 6 && ctb s (p + 1)) = true
  · rw [if_pos e1] at h2
    have h8 : bt s p / 32 = 6 := by simp only [Bool.and_eq_true, beq_iff_eq] at e1; exact e1.1
    have c1 : ctb (s.take m) (p + 1) = false := by
      by_cases hc : (bt s p % 32) * 64 + bt s (p + 1) % 64 ≥ 0x80
      · simp only [if_pos hc] at h2; exact ctb_cut (by omega)
      · simp only [if_neg hc] at h2; omega
    have h9 : (bt s p / 16 == 14) = false := by rw [beq_eq_false_iff_ne]; omega
    have h10 : (bt s p / 8 == 30) = false := by rw [beq_eq_false_iff_ne]; omega
    simp only [c1, h9, h10, Bool.and_false, Bool.false_and, Bool.false_eq_true, if_false]
  · rw [if_neg e1] at h2
    by_cases e2 : (bt s p / 16 == 14 && ctb s (p + 1) && ctb s (p + 2)) = true
    · rw [if_pos e2] at h2
      have h8 : bt s p / 16 = 14 := by simp only [Bool.and_eq_true, beq_iff_eq] at e2; exact e2.1.1
      have c1 : ctb (s.take m) (p + 2) = false := by
        by_cases hc : (decide ((bt s p % 16) * 4096 + (bt s (p + 1) % 64) * 64 + bt s (p + 2) % 64 ≥ 0x800) && okc ((bt s p % 16) * 4096 + (bt s (p + 1) % 64) * 64 + bt s (p + 2) % 64)) = true
        · simp only [if_pos hc] at h2; exact ctb_cut (by omega)
        · simp only [if_neg hc] at h2; omega
      have h9 : (bt s p / 32 == 6) = false := by rw [beq_eq_false_iff_ne]; omega
      have h10 : (bt s p / 8 == 30) = false := by rw [beq_eq_false_iff_ne]; omega
      simp only [c1, h9, h10, Bool.and_false, Bool.false_and, Bool.false_eq_true, if_false]
    · rw [if_neg e2] at h2
      by_cases e3 : (bt s p / 8 == 30 && ctb s (p + 1) && ctb s (p + 2) && ctb s (p + 3)) = true
      · rw [if_pos e3] at h2
        have h8 : bt s p / 8 = 30 := by simp only [Bool.and_eq_true, beq_iff_eq] at e3; exact e3.1.1.1
        have c1 : ctb (s.take m) (p + 3) = false := by
          by_cases hc : (decide ((bt s p % 8) * 262144 + (bt s (p + 1) % 64) * 4096 + (bt s (p + 2) % 64) * 64 + bt s (p + 3) % 64 ≥ 0x10000) && okc ((bt s p % 8) * 262144 + (bt s (p + 1) % 64) * 4096 + (bt s (p + 2) % 64) * 64 + bt s (p + 3) % 64)) = true
          · simp only [if_pos hc] at h2; exact ctb_cut (by omega)
          · simp only [if_neg hc] at h2; omega
        have h9 : (bt s p / 32 == 6) = false := by rw [beq_eq_false_iff_ne]; omega
        have h10 : (bt s p / 16 == 14) = false := by rw [beq_eq_false_iff_ne]; omega
        simp only [c1, h9, h10, Bool.and_false, Bool.false_and, Bool.false_eq_true, if_false]
      · rw [if_neg e3] at h2; simp only at h2; omega
theorem take_drop' (s : Str) (k w : Nat) : (s.take k).drop w = (s.drop w).take (k - w) := List.drop_take ..
theorem runS_take (p : Int → Bool) (hp : p 65533 = false) : ∀ (n : Nat) (s : Str) (k : Nat), s.length = n → runS p s ≤ k → runS p (s.take k) = runS p s := by
  intro n
  induction n using Nat.strongRecOn with
  | _ n ih =>
    intro s k hn hk
    by_cases hs : s.length = 0
    · rw [runS_nil hs, runS_nil (by rw [List.length_take]; omega)]
    · have hw := dec_width s 0
      cases h : p (dec s 0).1 with
      | true =>
        rw [runS_yes hs h] at hk ⊢
        have hd : dec (s.take k) 0 = dec s 0 := dec_take (by omega)
        rw [runS_yes (by rw [List.length_take]; omega) (by rw [hd]; exact h), hd, take_drop', ih (s.drop (dec s 0).2).length (by simp; omega) _ _ rfl (by omega)]
      | false =>
        rw [runS_no h]
        by_cases h0 : k = 0
        · subst h0; exact runS_nil (by simp)
        · refine runS_no ?_
          by_cases e : (dec s 0).2 ≤ k
          · rw [dec_take (by omega)]; exact h
          · rw [dec_cut (by omega) (by omega)]; exact hp
inductive Bd : Str → Nat → Prop
  | zero (s) : Bd s 0
  | step {s a} (hs : s.length ≠ 0) (h : Bd (s.drop (dec s 0).2) a) : Bd s ((dec s 0).2 + a)
theorem Bd.le {s : Str} {a : Nat} (h : Bd s a) : a ≤ s.length := by
  induction h with
  | zero => omega
  | @step s a hs h ih => have := dec_fits (s := s) (p := 0) (by omega); rw [List.length_drop] at ih; omega
theorem Bd.trans {s : Str} {a b : Nat} (h : Bd s a) (h2 : Bd (s.drop a) b) : Bd s (a + b) := by
  induction h with
  | zero => simpa using h2
  | step hs h ih =>
    rw [Nat.add_assoc]
    exact .step hs (ih (by rwa [List.drop_drop]))
theorem Bd.take {s : Str} {b a : Nat} (h : Bd s b) (hb : b ≤ a) : Bd (s.take a) b := by
  induction h generalizing a with
  | zero => exact .zero _
  | @step s b hs h ih =>
    have hd : dec (s.take a) 0 = dec s 0 := dec_take (by omega)
    have hw := dec_width s 0
    have := Bd.step (s := s.take a) (a := b) (by rw [List.length_take]; omega) (by rw [hd, take_drop']; exact ih (by omega))
    rwa [hd] at this
theorem chS_split {s : Str} {a : Nat} (h : Bd s a) : chS s = chS (s.take a) + chS (s.drop a) := by
  induction h with
  | zero s => rw [List.take_zero, chS_nil (s := []) rfl, List.drop_zero, Nat.zero_add]
  | @step s a hs h ih =>
    have hd : dec (s.take ((dec s 0).2 + a)) 0 = dec s 0 := dec_take (by omega)
    have hw := dec_width s 0
    rw [chS_step hs, chS_step (s := s.take ((dec s 0).2 + a)) (by rw [List.length_take]; omega), hd, take_drop', Nat.add_sub_cancel_left, ih, List.drop_drop]
    omega
theorem bd_run (p : Int → Bool) : ∀ (n : Nat) (s : Str), s.length = n → Bd s (runS p s) := by
  intro n
  induction n using Nat.strongRecOn with
  | _ n ih =>
    intro s hn
    by_cases hs : s.length = 0
    · rw [runS_nil hs]; exact .zero _
    · have hw := dec_width s 0
      cases h : p (dec s 0).1 with
      | false => rw [runS_no h]; exact .zero _
      | true => rw [runS_yes hs h]; exact .step hs (ih _ (by simp; omega) _ rfl)
theorem bd_ascii : ∀ {t s : Str}, t.isPrefixOf s = true → (∀ c ∈ t, c.toNat < 128) → Bd s t.length
  | [], s, _, _ => .zero _
  | c :: t, [], h, _ => by simp [List.isPrefixOf] at h
  | c :: t, c' :: s, h, hc => by
    simp only [List.isPrefixOf, Bool.and_eq_true, beq_iff_eq] at h
    obtain ⟨rfl, h⟩ := h
    have hd : dec (c :: s) 0 = (bt (c :: s) 0, 1) := dec_ascii (hc c (by simp))
    have := Bd.step (s := c :: s) (a := t.length) (by simp) (by rw [hd]; exact bd_ascii h fun x hx => hc x (by simp [hx]))
    rw [hd] at this
    rw [List.length_cons, Nat.add_comm]
    exact this

end Tab

/- A word of a text hangs on its own bytes: plain. -/
namespace Tab
open Go
set_option maxRecDepth 10000
set_option linter.unusedVariables false
set_option linter.unusedSimpArgs false
set_option linter.unusedSectionVars false

theorem blank_run : digR 32 = false ∧ restR 32 = false ∧ digR 65533 = false ∧ restR 65533 = false ∧ blankR 65533 = false := by
  refine ⟨by decide, ?_, by decide, ?_, by decide⟩
  · unfold restR startR; decide
  · unfold restR startR; decide
theorem start_rest {r : Int} (h : startR r = true) : restR r = true := by unfold restR; rw [h]; rfl
theorem dec_join {x y : Str} (hx : x.length ≠ 0) : dec (x ++ 32 :: y) 0 = dec x 0 := by
  have hb : bt (x ++ 32 :: y) x.length < 128 := by simp [bt]
  have hs := dec_stop (s := x ++ 32 :: y) (m := x.length) (p := 0) (by omega) hb
  have := dec_take (s := x ++ 32 :: y) (m := x.length) (p := 0) hs
  rw [List.take_left] at this
  exact this.symm
theorem run_join (p : Int → Bool) (hp : p 32 = false) (y : Str) : ∀ (n : Nat) (x : Str), x.length = n → runS p (x ++ 32 :: y) = runS p x := by
  intro n
  induction n using Nat.strongRecOn with
  | _ n ih =>
    intro x hn
    by_cases hs : x.length = 0
    · have : x = [] := List.length_eq_zero_iff.1 hs
      subst this
      rw [runS_nil (s := ([] : Str)) rfl]
      exact runS_no (by rw [List.nil_append, dec_ascii (by simp [bt])]; simpa [bt] using hp)
    · have hd := dec_join (y := y) hs
      have hw := dec_width x 0
      have hf := dec_fits (s := x) (p := 0) (by omega)
      cases h : p (dec x 0).1 with
      | false => rw [runS_no h, runS_no (by rw [hd]; exact h)]
      | true => rw [runS_yes hs h, runS_yes (by simp) (by rw [hd]; exact h), hd, List.drop_append_of_le_length (by omega), ih _ (by simp; omega) _ rfl]
theorem pre_join {t : Str} (ht : (32 : UInt8) ∉ t) (y : Str) : ∀ (x : Str), t.isPrefixOf (x ++ 32 :: y) = t.isPrefixOf x := by
  induction t with
  | nil => intro x; simp [List.isPrefixOf]
  | cons c t ih =>
    intro x
    cases x with
    | nil =>
      have : (c == 32) = false := by rw [beq_eq_false_iff_ne]; intro e; exact ht (by simp [e])
      simp [List.isPrefixOf, this]
    | cons d x =>
      simp only [List.cons_append, List.isPrefixOf]
      rw [ih (fun h => ht (by simp [h]))]
theorem find_congr {α : Type} {f g : α → Bool} : ∀ {l : List α}, (∀ a ∈ l, f a = g a) → l.find? f = l.find? g
  | [], _ => rfl
  | a :: l, h => by
    rw [List.find?_cons, List.find?_cons, h a (by simp), find_congr fun b hb => h b (by simp [hb])]
theorem sign_chars : ∀ t ∈ signL, (32 : UInt8) ∉ t ∧ (∀ c ∈ t, c.toNat < 128) ∧ t ≠ [] := by decide
theorem signT_join (x y : Str) : signT (x ++ 32 :: y) = signT x := by
  rw [signT, signT, find_congr (g := fun t => t.isPrefixOf x) fun t ht => pre_join (sign_chars t ht).1 y x]
theorem tok_join {x : Str} (hx : x.length ≠ 0) (y : Str) : tokS (x ++ 32 :: y) = tokS x := by
  have hr := run_join restR blank_run.2.1 y _ x rfl
  have hg := run_join digR blank_run.1 y _ x rfl
  have l1 := runS_le restR _ x rfl
  have l2 := runS_le digR _ x rfl
  rw [tokS, tokS, dec_join hx, hr, hg, List.take_append_of_le_length l1, List.take_append_of_le_length l2, signT_join]

theorem pre_take {t : Str} : ∀ {x : Str} {k : Nat}, t.length ≤ k → t.isPrefixOf (x.take k) = t.isPrefixOf x := by
  induction t with
  | nil => intro x k _; simp [List.isPrefixOf]
  | cons c t ih =>
    intro x k hk
    cases x with
    | nil => simp
    | cons d x =>
      obtain ⟨j, rfl⟩ : ∃ j, k = j + 1 := ⟨k - 1, by simp at hk; omega⟩
      simp only [List.take_succ_cons, List.isPrefixOf]
      rw [ih (by simp at hk; omega)]
theorem pre_of_take {t : Str} : ∀ {x : Str} {k : Nat}, t.isPrefixOf (x.take k) = true → t.isPrefixOf x = true := by
  induction t with
  | nil => intro x k _; simp [List.isPrefixOf]
  | cons c t ih =>
    intro x k h
    cases x with
    | nil => simp at h
    | cons d x =>
      cases k with
      | zero => simp [List.isPrefixOf] at h
      | succ k =>
        simp only [List.take_succ_cons, List.isPrefixOf, Bool.and_eq_true] at h ⊢
        exact ⟨h.1, ih h.2⟩
theorem find_take {x : Str} {k : Nat} : ∀ {l : List Str} {t : Str}, (l.find? fun t => t.isPrefixOf x) = some t → t.length ≤ k → (l.find? fun t => t.isPrefixOf (x.take k)) = some t
  | [], _, h, _ => by simp at h
  | a :: l, t, h, hk => by
    rw [List.find?_cons] at h ⊢
    cases ha : a.isPrefixOf x with
    | true =>
      simp only [ha] at h
      cases h
      simp only [pre_take hk, ha]
    | false =>
      simp only [ha] at h
      cases hb : a.isPrefixOf (x.take k) with
      | true => rw [pre_of_take hb] at ha; cases ha
      | false => simp only [hb]; exact find_take h hk
theorem sign_ok {x : Str} (h : (signT x).err = 0) : ∃ t ∈ signL, t.isPrefixOf x = true ∧ signT x = ⟨2, t, 0, t.length, 0⟩ ∧ (signL.find? fun t => t.isPrefixOf x) = some t := by
  rw [signT] at h ⊢
  cases e : (signL.find? fun t => t.isPrefixOf x) with
  | none => rw [e] at h; simp [tokBad] at h
  | some t => exact ⟨t, List.mem_of_find?_eq_some e, List.find?_some (p := fun t : Str => t.isPrefixOf x) e, rfl, rfl⟩
theorem run_first {p : Int → Bool} {x : Str} (hx : x.length ≠ 0) (h : p (dec x 0).1 = true) : (dec x 0).2 ≤ runS p x := by rw [runS_yes hx h]; omega
theorem nameT_n (t : Str) (n : Nat) : (nameT t n).n = n := by rw [nameT]; split; rfl; split <;> rfl
theorem tok_cut {x : Str} (hx : x.length ≠ 0) (h : (tokS x).err = 0) : Bd x (tokS x).n ∧ 1 ≤ (tokS x).n ∧ ∀ k, (tokS x).n ≤ k → tokS (x.take k) = tokS x := by
  have hw := dec_width x 0
  rw [tokS] at h ⊢
  by_cases h1 : (dec x 0).1 = 65533 ∧ (dec x 0).2 ≤ 1
  · rw [if_pos h1] at h; simp [tokBad] at h
  rw [if_neg h1] at h ⊢
  by_cases h2 : startR (dec x 0).1 = true
  · rw [if_pos h2] at h ⊢
    rw [nameT_n]
    have hf := run_first hx (start_rest h2)
    refine ⟨bd_run restR _ x rfl, by omega, fun k hk => ?_⟩
    rw [tokS, dec_take (by omega), if_neg h1, if_pos h2, runS_take restR blank_run.2.2.2.1 _ x k rfl hk, List.take_take, Nat.min_eq_left hk]
  rw [if_neg h2] at h ⊢
  by_cases h3 : digR (dec x 0).1 = true
  · rw [if_pos h3] at h ⊢
    have hf := run_first hx h3
    cases e : numS (x.take (runS digR x)) with
    | none => rw [e] at h; simp [tokBad] at h
    | some v =>
      simp only
      refine ⟨bd_run digR _ x rfl, by omega, fun k hk => ?_⟩
      rw [tokS, dec_take (by omega), if_neg h1, if_neg h2, if_pos h3, runS_take digR blank_run.2.2.1 _ x k rfl hk, List.take_take, Nat.min_eq_left hk, e]
  rw [if_neg h3] at h ⊢
  by_cases h4 : plainS (dec x 0).1 ≠ []
  · rw [if_pos h4]
    refine ⟨.step (a := 0) hx (.zero _), by simp only; omega, fun k hk => ?_⟩
    simp only at hk
    rw [tokS, dec_take (by omega), if_neg h1, if_neg h2, if_neg h3, if_pos h4]
  rw [if_neg h4] at h ⊢
  obtain ⟨t, ht, hp, e, hf⟩ := sign_ok h
  obtain ⟨_, hc, hne⟩ := sign_chars t ht
  rw [e]
  have hl : 1 ≤ t.length := by cases t with | nil => exact absurd rfl hne | cons => simp
  refine ⟨bd_ascii hp hc, hl, fun k hk => ?_⟩
  have hw1 : (dec x 0).2 = 1 := by
    cases t with
    | nil => exact absurd rfl hne
    | cons c t =>
      cases x with
      | nil => simp at hx
      | cons d x =>
        simp only [List.isPrefixOf, Bool.and_eq_true, beq_iff_eq] at hp
        have : bt (d :: x) 0 < 128 := by rw [← hp.1]; exact hc c (by simp)
        rw [dec_ascii this]
  simp only at hk
  rw [tokS, dec_take (by omega), if_neg h1, if_neg h2, if_neg h3, if_neg h4, signT, find_take hf hk]

end Tab

/- The words of a text from a place on: plain. -/
namespace Tab
open Go
set_option maxRecDepth 10000
set_option linter.unusedVariables false
set_option linter.unusedSimpArgs false
set_option linter.unusedSectionVars false

def lexQ : Nat → Str → Nat → Nat → List Wd × Flt
  | 0, _, _, _ => ([], flt0)
  | f + 1, x, a, ch => if (x.drop (runS blankR x)).length = 0 then ([], flt0)
    else if (tokS (x.drop (runS blankR x))).err ≠ 0 then ([], ⟨(tokS (x.drop (runS blankR x))).err, a + runS blankR x, ch + chS (x.take (runS blankR x))⟩)
    else (⟨(tokS (x.drop (runS blankR x))).kind, (tokS (x.drop (runS blankR x))).text, (tokS (x.drop (runS blankR x))).num, a + runS blankR x, ch + chS (x.take (runS blankR x))⟩ ::
        (lexQ f ((x.drop (runS blankR x)).drop (tokS (x.drop (runS blankR x))).n) (a + runS blankR x + (tokS (x.drop (runS blankR x))).n) (ch + chS (x.take (runS blankR x)) + chS ((x.drop (runS blankR x)).take (tokS (x.drop (runS blankR x))).n))).1,
      (lexQ f ((x.drop (runS blankR x)).drop (tokS (x.drop (runS blankR x))).n) (a + runS blankR x + (tokS (x.drop (runS blankR x))).n) (ch + chS (x.take (runS blankR x)) + chS ((x.drop (runS blankR x)).take (tokS (x.drop (runS blankR x))).n))).2)
theorem lexQ_fuel : ∀ (f g : Nat) (x : Str) (a ch : Nat), x.length < f → x.length < g → lexQ f x a ch = lexQ g x a ch
  | 0, _, _, _, _, h, _ => by omega
  | _, 0, _, _, _, _, h => by omega
  | f + 1, g + 1, x, a, ch, h1, h2 => by
    rw [lexQ, lexQ]
    by_cases e0 : (x.drop (runS blankR x)).length = 0
    · rw [if_pos e0, if_pos e0]
    rw [if_neg e0, if_neg e0]
    by_cases e1 : (tokS (x.drop (runS blankR x))).err ≠ 0
    · rw [if_pos e1, if_pos e1]
    rw [if_neg e1, if_neg e1]
    have hc := (tok_cut e0 (Decidable.of_not_not e1)).2.1
    rw [lexQ_fuel f g _ _ _ (by simp at *; omega) (by simp at *; omega)]
def lexW (x : Str) (a ch : Nat) : List Wd × Flt := lexQ (x.length + 1) x a ch
structure Part (x : Str) (b : Nat) (x1 : Str) (t : Tok) : Prop where
  run : runS blankR x = b
  rest : x.drop b = x1
  some : x1.length ≠ 0
  tok : tokS x1 = t
theorem part_of (x : Str) : (runS blankR x = x.length) ∨ Part x (runS blankR x) (x.drop (runS blankR x)) (tokS (x.drop (runS blankR x))) := by
  have := runS_le blankR _ x rfl
  by_cases h : runS blankR x = x.length
  · exact .inl h
  · exact .inr ⟨rfl, rfl, by rw [List.length_drop]; omega, rfl⟩
theorem lexW_nil {x : Str} (h : runS blankR x = x.length) (a ch : Nat) : lexW x a ch = ([], flt0) := by
  rw [lexW, lexQ, if_pos (by rw [List.length_drop]; omega)]
theorem lexW_bad {x : Str} {b x1 t} (h : Part x b x1 t) (he : t.err ≠ 0) (a ch : Nat) : lexW x a ch = ([], ⟨t.err, a + b, ch + chS (x.take b)⟩) := by
  obtain ⟨rfl, rfl, h3, rfl⟩ := h
  rw [lexW, lexQ, if_neg h3, if_pos he]
theorem lexW_tok {x : Str} {b x1 t} (h : Part x b x1 t) (he : t.err = 0) (a ch : Nat) : lexW x a ch =
    (⟨t.kind, t.text, t.num, a + b, ch + chS (x.take b)⟩ :: (lexW (x1.drop t.n) (a + b + t.n) (ch + chS (x.take b) + chS (x1.take t.n))).1, (lexW (x1.drop t.n) (a + b + t.n) (ch + chS (x.take b) + chS (x1.take t.n))).2) := by
  obtain ⟨rfl, rfl, h3, rfl⟩ := h
  have hc := (tok_cut h3 he).2.1
  rw [lexW, lexQ, if_neg h3, if_neg (by rw [he]; simp)]
  rw [lexQ_fuel x.length _ _ _ _ (by simp at *; omega) (Nat.lt_succ_self _)]
  rfl
theorem Part.bd {x : Str} {b x1 t} (h : Part x b x1 t) : Bd x b := by obtain ⟨rfl, _⟩ := h; exact bd_run blankR _ x rfl
theorem Part.lt {x : Str} {b x1 t} (h : Part x b x1 t) : b < x.length ∧ x1.length = x.length - b := by
  obtain ⟨rfl, rfl, h3, _⟩ := h
  rw [List.length_drop] at h3 ⊢
  omega
theorem Part.tokN {x : Str} {b x1 t} (h : Part x b x1 t) (he : t.err = 0) : Bd x1 t.n ∧ 1 ≤ t.n ∧ t.n ≤ x1.length ∧ ∀ k, t.n ≤ k → tokS (x1.take k) = t := by
  obtain ⟨rfl, rfl, h3, rfl⟩ := h
  obtain ⟨k1, k2, k3⟩ := tok_cut h3 he
  exact ⟨k1, k2, k1.le, k3⟩
theorem chS_cut {s : Str} {a b : Nat} (h1 : Bd s a) (h2 : a ≤ b) : chS (s.take b) = chS (s.take a) + chS ((s.drop a).take (b - a)) := by
  have h := chS_split (h1.take h2)
  rwa [List.take_take, Nat.min_eq_left h2, take_drop'] at h

def finL (r : List Wd × Flt) : List Wd × Flt := if r.2.why ≠ 0 then ([], r.2) else r
theorem lexL_eq (s : Str) : ∀ (f a ch ct : Nat), s.length < f + a → a ≤ s.length → Bd s a → Bd s ct → ct ≤ a → ch = chS (s.take ct) →
    lexL s f (a + runS blankR (s.drop a)) ch ct = finL (lexW (s.drop a) a (chS (s.take a)))
  | 0, a, ch, ct, hf, ha, _, _, _, _ => by omega
  | f + 1, a, ch, ct, hf, ha, hb, hbc, hca, hch => by
    rcases part_of (s.drop a) with h | h
    · rw [lexW_nil h, h, lexL, if_pos (by rw [List.length_drop]; omega)]
      rfl
    · have hp := h
      obtain ⟨k1, k2⟩ := h.lt
      rw [List.length_drop] at k1
      generalize hbe : runS blankR (s.drop a) = b at *
      generalize hxe : (s.drop a).drop b = x1 at *
      generalize hte : tokS x1 = t at *
      have hx1 : s.drop (a + b) = x1 := by rw [← hxe, List.drop_drop]
      have hcut : chS (s.take (a + b)) = chS (s.take a) + chS ((s.drop a).take b) := by
        have := chS_cut hb (show a ≤ a + b by omega)
        rwa [Nat.add_sub_cancel_left] at this
      have hc : ch + chS ((s.take (a + b)).drop ct) = chS (s.take (a + b)) := by
        have := chS_cut hbc (show ct ≤ a + b by omega)
        rw [take_drop', hch, this]
      rw [lexL, if_neg (by omega)]
      simp only [hc, hx1, hte]
      by_cases he : t.err = 0
      · obtain ⟨n1, n2, n3, _⟩ := hp.tokN he
        have hb2 : Bd s (a + b) := hb.trans hp.bd
        have hb3 : Bd s (a + b + t.n) := hb2.trans (by rw [hx1]; exact n1)
        have hn := hb3.le
        have hx2 : s.drop (a + b + t.n) = x1.drop t.n := by rw [← hx1, List.drop_drop]
        have hcut2 : chS (s.take (a + b + t.n)) = chS (s.take (a + b)) + chS (x1.take t.n) := by
          have := chS_cut hb2 (show a + b ≤ a + b + t.n by omega)
          rwa [Nat.add_sub_cancel_left, hx1] at this
        have ih := lexL_eq s f (a + b + t.n) (chS (s.take (a + b))) (a + b) (by omega) hn hb3 hb2 (by omega) rfl
        rw [lexW_tok hp he, if_neg (by rw [he]; simp), ih, hx2, hcut2, hcut]
        generalize lexW (x1.drop t.n) (a + b + t.n) (chS (s.take a) + chS ((s.drop a).take b) + chS (x1.take t.n)) = r
        rw [finL, finL]
        by_cases hw : r.2.why ≠ 0
        · simp only [if_pos hw]
        · simp only [if_neg hw]
      · rw [lexW_bad hp he, if_pos he, finL, if_pos he, hcut]
theorem lexS_eq (s : Str) : lexS s = if 4096 < s.length then ([], ⟨70, 0, 0⟩) else finL (lexW s 0 0) := by
  rw [lexS]
  split
  · rfl
  · have h := lexL_eq s (s.length + 1) 0 0 0 (by omega) (Nat.zero_le _) (.zero _) (.zero _) (Nat.le_refl _) (by rw [List.take_zero, chS_nil rfl])
    rw [Nat.zero_add, List.drop_zero, List.take_zero, chS_nil (s := []) rfl] at h
    exact h

end Tab

/- The reader, plain: what stays, what a tree is made of, two readers side by side. -/
namespace Tab
open Go
set_option maxRecDepth 10000
set_option linter.unusedVariables false
set_option linter.unusedSimpArgs false
set_option linter.unusedSectionVars false

structure Mono (e : Nat × Nat) (B : Rs → Prop) : Prop where
  take : ∀ r L, B r → B (r.take L).2
  wrong : ∀ r y, (y = 71 ∨ y = 92) → B r → B (r.wrong e y)
  word : ∀ r k, B r → B (r.word e k).2
section
variable {e : Nat × Nat} {B : Rs → Prop} (M : Mono e B)
include M
theorem mono_need (r : Rs) (s : Str) (h : B r) : B (r.need e s) := by
  unfold Rs.need
  split
  · exact M.wrong _ _ (by simp) (M.take _ _ h)
  · exact M.take _ _ h
theorem mono_terms : ∀ n, (∀ r, B r → B (pT e n r).2) ∧ (∀ x : TT × Rs, B x.2 → B (pTL e n x).2) ∧ (∀ r, B r → B (pP e n r).2) ∧ (∀ x : TT × Rs, B x.2 → B (pPL e n x).2) ∧ (∀ r, B r → B (pFa e n r).2)
  | 0 => ⟨fun _ h => by rw [pT]; exact h, fun _ h => by rw [pTL]; exact h, fun _ h => by rw [pP]; exact h, fun _ h => by rw [pPL]; exact h, fun _ h => by rw [pFa]; exact h⟩
  | n + 1 => by
    obtain ⟨i1, i2, i3, i4, i5⟩ := mono_terms n
    refine ⟨fun r h => ?_, fun x h => ?_, fun r h => ?_, fun x h => ?_, fun r h => ?_⟩
    · rw [pT]; exact i2 _ (i3 r h)
    · have h := M.take x.2 [tAdd, tSub] h
      rw [pTL]
      try simp only
      split
      · exact i2 _ (i3 _ h)
      split
      · exact i2 _ (i3 _ h)
      · exact h
    · rw [pP]; exact i4 _ (i5 r h)
    · have h := M.take x.2 [tMul] h
      rw [pPL]
      try simp only
      split
      · exact i4 _ (i5 _ h)
      · exact h
    · have h := M.take r [tOpen, tSub] h
      rw [pFa]
      try simp only
      split
      · exact mono_need M _ _ (i1 _ h)
      split
      · exact i5 _ h
      split
      · exact M.word _ _ h
      · exact M.word _ _ h
end

def leafP (e : Nat × Nat) (s : Rs) : TT × Rs := if s.fl.why = 0 ∧ s.ws ≠ [] ∧ s.hd.kind = 0 then (.mk 1 0 (s.word e 0).1.text .nil [], (s.word e 0).2) else (.mk 0 (s.word e 1).1.num [] .nil [], (s.word e 1).2)
structure Made (e : Nat × Nat) (W B : Rs → Prop) (T : TT → Prop) (F : FT → Prop) : Prop where
  keep : Mono e W
  bad : Mono e B
  zero : T (.mk 0 0 [] .nil [])
  leaf : ∀ r, W r → B (leafP e r).2 ∨ T (leafP e r).1
  neg : ∀ a, T a → T (.mk 2 0 [] .any [a])
  two : ∀ op a b, 3 ≤ op → op ≤ 5 → T a → T b → T (.mk op 0 [] .any [a, b])
  nil : ∀ op, 0 ≤ op → op ≤ 1 → F (nilF op)
  not : ∀ a, F a → F (oneF 2 [] a)
  pair : ∀ op a b, 3 ≤ op → op ≤ 6 → F a → F b → F (twoF op a b)
  quant : ∀ op r, (op = 7 ∨ op = 8) → W r → B (r.word e 0).2 ∨ ∀ a, F a → F (oneF op (r.word e 0).1.text a)
  rel : ∀ op a b, 9 ≤ op → op ≤ 14 → T a → T b → F (.mk op [] 0 .any [a, b] .nil [])
  cong : ∀ r a b, W r → T a → T b → B (modS e r).2 ∨ F (.mk 15 [] (modS e r).1 .any [a, b] .nil [])
section
variable {e : Nat × Nat} {W B : Rs → Prop} {T : TT → Prop} {F : FT → Prop} (M : Made e W B T F)
include M
def OfT (W B : Rs → Prop) (T : TT → Prop) (x : TT × Rs) : Prop := W x.2 ∧ (B x.2 ∨ T x.1)
theorem made_terms : ∀ n, (∀ r, W r → OfT W B T (pT e n r)) ∧ (∀ x, OfT W B T x → OfT W B T (pTL e n x)) ∧ (∀ r, W r → OfT W B T (pP e n r)) ∧ (∀ x, OfT W B T x → OfT W B T (pPL e n x)) ∧ (∀ r, W r → OfT W B T (pFa e n r))
  | 0 => ⟨fun _ h => by rw [pT]; exact ⟨h, .inr M.zero⟩, fun _ h => by rw [pTL]; exact h, fun _ h => by rw [pP]; exact ⟨h, .inr M.zero⟩, fun _ h => by rw [pPL]; exact h, fun _ h => by rw [pFa]; exact ⟨h, .inr M.zero⟩⟩
  | n + 1 => by
    obtain ⟨i1, i2, i3, i4, i5⟩ := made_terms n
    obtain ⟨b1, b2, b3, b4, b5⟩ := mono_terms M.bad n
    refine ⟨fun r h => ?_, fun x h => ?_, fun r h => ?_, fun x h => ?_, fun r h => ?_⟩
    · rw [pT]; exact i2 _ (i3 r h)
    · have hw := M.keep.take x.2 [tAdd, tSub] h.1
      have hb := M.bad.take x.2 [tAdd, tSub]
      have hx := h.2
      rw [pTL]
      try simp only
      split
      · have hy := i3 _ hw
        refine i2 _ ⟨hy.1, ?_⟩
        rcases hx with hx | hx
        · exact .inl (b3 _ (hb hx))
        · exact hy.2.imp id fun k => M.two 3 _ _ (by decide) (by decide) hx k
      split
      · have hy := i3 _ hw
        refine i2 _ ⟨hy.1, ?_⟩
        rcases hx with hx | hx
        · exact .inl (b3 _ (hb hx))
        · exact hy.2.imp id fun k => M.two 4 _ _ (by decide) (by decide) hx k
      · exact ⟨hw, hx.imp hb id⟩
    · rw [pP]; exact i4 _ (i5 r h)
    · have hw := M.keep.take x.2 [tMul] h.1
      have hb := M.bad.take x.2 [tMul]
      have hx := h.2
      rw [pPL]
      try simp only
      split
      · have hy := i5 _ hw
        refine i4 _ ⟨hy.1, ?_⟩
        rcases hx with hx | hx
        · exact .inl (b5 _ (hb hx))
        · exact hy.2.imp id fun k => M.two 5 _ _ (by decide) (by decide) hx k
      · exact ⟨hw, hx.imp hb id⟩
    · have hw := M.keep.take r [tOpen, tSub] h
      rw [pFa]
      try simp only
      split
      · have hy := i1 _ hw
        exact ⟨mono_need M.keep _ _ hy.1, hy.2.imp (mono_need M.bad _ _) id⟩
      split
      · have hy := i5 _ hw
        exact ⟨hy.1, hy.2.imp id (M.neg _)⟩
      · have hl := M.leaf _ hw
        unfold leafP at hl
        split
        · rename_i hc
          rw [if_pos hc] at hl
          exact ⟨M.keep.word _ _ hw, hl⟩
        · rename_i hc
          rw [if_neg hc] at hl
          exact ⟨M.keep.word _ _ hw, hl⟩
end

end Tab

/- Two texts with a blank between: plain. -/
namespace Tab
open Go
set_option maxRecDepth 10000
set_option linter.unusedVariables false
set_option linter.unusedSimpArgs false
set_option linter.unusedSectionVars false

theorem run_cat_all (p : Int → Bool) (y : Str) : ∀ (n : Nat) (x : Str), x.length = n → runS p x = x.length → runS p (x ++ 32 :: y) = x.length + runS p (32 :: y) := by
  intro n
  induction n using Nat.strongRecOn with
  | _ n ih =>
    intro x hn h
    by_cases hs : x.length = 0
    · have : x = [] := List.length_eq_zero_iff.1 hs
      subst this; simp
    · have hd := dec_join (y := y) hs
      have hw := dec_width x 0
      have hf := dec_fits (s := x) (p := 0) (by omega)
      cases hp : p (dec x 0).1 with
      | false => rw [runS_no hp] at h; omega
      | true =>
        rw [runS_yes hs hp] at h
        rw [runS_yes (by simp) (by rw [hd]; exact hp), hd, List.drop_append_of_le_length (by omega), ih _ (by simp; omega) (x.drop (dec x 0).2) rfl (by rw [List.length_drop]; omega), List.length_drop]
        omega
theorem run_cat_stop (p : Int → Bool) (y : Str) : ∀ (n : Nat) (x : Str), x.length = n → runS p x < x.length → runS p (x ++ 32 :: y) = runS p x := by
  intro n
  induction n using Nat.strongRecOn with
  | _ n ih =>
    intro x hn h
    by_cases hs : x.length = 0
    · omega
    · have hd := dec_join (y := y) hs
      have hw := dec_width x 0
      have hf := dec_fits (s := x) (p := 0) (by omega)
      cases hp : p (dec x 0).1 with
      | false => rw [runS_no hp, runS_no (by rw [hd]; exact hp)]
      | true =>
        rw [runS_yes hs hp] at h ⊢
        rw [runS_yes (by simp) (by rw [hd]; exact hp), hd, List.drop_append_of_le_length (by omega), ih _ (by simp; omega) (x.drop (dec x 0).2) rfl (by rw [List.length_drop]; omega)]
theorem bd_end : ∀ (n : Nat) (x : Str), x.length = n → Bd x x.length := by
  intro n
  induction n using Nat.strongRecOn with
  | _ n ih =>
    intro x hn
    by_cases hs : x.length = 0
    · rw [hs]; exact .zero _
    · have hw := dec_width x 0
      have hf := dec_fits (s := x) (p := 0) (by omega)
      have h := Bd.step (s := x) hs (ih _ (by simp; omega) (x.drop (dec x 0).2) rfl)
      rw [List.length_drop] at h
      rwa [show (dec x 0).2 + (x.length - (dec x 0).2) = x.length by omega] at h
theorem Bd.join {x : Str} {b : Nat} (h : Bd x b) (y : Str) : Bd (x ++ 32 :: y) b := by
  induction h with
  | zero => exact .zero _
  | @step x b hs h ih =>
    have hd := dec_join (y := y) hs
    have hf := dec_fits (s := x) (p := 0) (by omega)
    have := Bd.step (s := x ++ 32 :: y) (a := b) (by simp) (by rw [hd, List.drop_append_of_le_length (by omega)]; exact ih)
    rwa [hd] at this
theorem chS_blank (y : Str) : chS (32 :: y) = 1 + chS y := by
  rw [chS_step (by simp), dec_ascii (by simp [bt])]; rfl
theorem lexW_skip {z : Str} {k : Nat} (hb : Bd z k) (hr : runS blankR z = k + runS blankR (z.drop k)) (a ch : Nat) : lexW z a ch = lexW (z.drop k) (a + k) (ch + chS (z.take k)) := by
  have hk := hb.le
  rcases part_of (z.drop k) with h | h
  · rw [lexW_nil h, lexW_nil (by rw [hr, h, List.length_drop]; omega)]
  · have hz : Part z (k + runS blankR (z.drop k)) ((z.drop k).drop (runS blankR (z.drop k))) (tokS ((z.drop k).drop (runS blankR (z.drop k)))) := ⟨hr, by rw [List.drop_drop], h.some, rfl⟩
    generalize runS blankR (z.drop k) = b at *
    have hc : chS (z.take (k + b)) = chS (z.take k) + chS ((z.drop k).take b) := by
      have := chS_cut hb (show k ≤ k + b by omega)
      rwa [Nat.add_sub_cancel_left] at this
    generalize (z.drop k).drop b = x1 at *
    generalize tokS x1 = t at *
    by_cases he : t.err = 0
    · rw [lexW_tok h he, lexW_tok hz he, hc]
      simp only [Nat.add_assoc]
    · rw [lexW_bad h he, lexW_bad hz he, hc]
      simp only [Nat.add_assoc]
theorem Part.join {x : Str} {b x1 t} (h : Part x b x1 t) (y : Str) : Part (x ++ 32 :: y) b (x1 ++ 32 :: y) t := by
  obtain ⟨l1, l2⟩ := h.lt
  obtain ⟨rfl, rfl, h3, rfl⟩ := h
  exact ⟨run_cat_stop blankR y _ x rfl l1, by rw [List.drop_append_of_le_length (by omega)], by simp, tok_join h3 y⟩
theorem lex_join (y : Str) : ∀ (n : Nat) (x : Str), x.length = n → ∀ (a ch : Nat), lexW (x ++ 32 :: y) a ch =
    if (lexW x a ch).2.why ≠ 0 then lexW x a ch else ((lexW x a ch).1 ++ (lexW y (a + x.length + 1) (ch + chS x + 1)).1, (lexW y (a + x.length + 1) (ch + chS x + 1)).2) := by
  intro n
  induction n using Nat.strongRecOn with
  | _ n ih =>
    intro x hn a ch
    rcases part_of x with h | h
    · rw [lexW_nil h, if_neg (by simp [flt0])]
      have hb : Bd (x ++ 32 :: y) (x.length + 1) := by
        have h1 := (bd_end _ x rfl).join y
        have h2 : Bd (32 :: y : Str) 1 := by
          have := Bd.step (s := (32 :: y : Str)) (a := 0) (by simp) (.zero _)
          rwa [dec_ascii (by simp [bt])] at this
        refine h1.trans ?_
        rw [List.drop_left]; exact h2
      have hd : (x ++ 32 :: y).drop (x.length + 1) = y := by rw [List.drop_append]; simp
      have hr : runS blankR (x ++ 32 :: y) = x.length + 1 + runS blankR ((x ++ 32 :: y).drop (x.length + 1)) := by
        rw [run_cat_all blankR y _ x rfl h, hd, runS_yes (s := (32 :: y : Str)) (by simp) (by rw [dec_ascii (by simp [bt])]; simp [bt, blankR]), dec_ascii (by simp [bt])]
        simp only [List.drop_succ_cons, List.drop_zero]
        omega
      have hc : chS ((x ++ 32 :: y).take (x.length + 1)) = chS x + 1 := by
        have hb2 := (bd_end _ x rfl).join y
        have := chS_cut hb2 (show x.length ≤ x.length + 1 by omega)
        rw [this, List.take_left, List.drop_left, Nat.add_sub_cancel_left, List.take_succ_cons, List.take_zero, chS_blank, chS_nil (s := []) rfl]
      rw [lexW_skip hb hr, hd, hc, Nat.add_assoc, Nat.add_assoc]
      rfl
    · have hj := h.join y
      obtain ⟨l1, l2⟩ := h.lt
      generalize hbe : runS blankR x = b at *
      generalize hxe : x.drop b = x1 at *
      generalize hte : tokS x1 = t at *
      have htk : (x ++ 32 :: y).take b = x.take b := List.take_append_of_le_length (by omega)
      by_cases he : t.err = 0
      · obtain ⟨n1, n2, n3, _⟩ := h.tokN he
        have hbx := h.bd
        have hcx : chS x = chS (x.take b) + (chS (x1.take t.n) + chS (x1.drop t.n)) := by
          rw [chS_split hbx, hxe, chS_split n1]
        rw [lexW_tok hj he, lexW_tok h he, htk, List.take_append_of_le_length n3, List.drop_append_of_le_length n3, ih _ (by rw [List.length_drop]; omega) (x1.drop t.n) rfl, List.length_drop]
        generalize lexW (x1.drop t.n) (a + b + t.n) (ch + chS (x.take b) + chS (x1.take t.n)) = r
        rw [show a + b + t.n + (x1.length - t.n) + 1 = a + x.length + 1 by omega, show ch + chS (x.take b) + chS (x1.take t.n) + chS (x1.drop t.n) + 1 = ch + chS x + 1 by omega]
        by_cases hw : r.2.why ≠ 0
        · simp only [if_pos hw]
        · simp only [if_neg hw, List.cons_append]
      · rw [lexW_bad hj he, lexW_bad h he, htk, if_pos he]

end Tab

/- Where words and faults stand: plain. -/
namespace Tab
open Go
set_option maxRecDepth 10000
set_option linter.unusedVariables false
set_option linter.unusedSimpArgs false
set_option linter.unusedSectionVars false

theorem Part.cut {x : Str} {b x1 t} (h : Part x b x1 t) (he : t.err = 0) {k : Nat} (hk : t.n ≤ k) : Part (x.take (b + k)) b (x1.take k) t := by
  obtain ⟨l1, l2⟩ := h.lt
  obtain ⟨n1, n2, n3, n4⟩ := h.tokN he
  obtain ⟨rfl, rfl, h3, rfl⟩ := h
  exact ⟨runS_take blankR blank_run.2.2.2.2 _ x _ rfl (by omega), by rw [take_drop', Nat.add_sub_cancel_left], by rw [List.length_take]; omega, n4 k hk⟩
theorem lex_cut : ∀ (n : Nat) (x : Str), x.length = n → ∀ (a ch : Nat), (lexW x a ch).2.why ≠ 0 →
    ∃ k, k < x.length ∧ Bd x k ∧ (lexW x a ch).2.at' = a + k ∧ (lexW x a ch).2.ch = ch + chS (x.take k) ∧ lexW (x.take k) a ch = ((lexW x a ch).1, flt0) := by
  intro n
  induction n using Nat.strongRecOn with
  | _ n ih =>
    intro x hn a ch hw
    rcases part_of x with h | h
    · rw [lexW_nil h] at hw; exact absurd rfl hw
    · obtain ⟨l1, l2⟩ := h.lt
      have hbx := h.bd
      generalize hbe : runS blankR x = b at *
      generalize hxe : x.drop b = x1 at *
      generalize hte : tokS x1 = t at *
      by_cases he : t.err = 0
      · obtain ⟨n1, n2, n3, _⟩ := h.tokN he
        rw [lexW_tok h he] at hw ⊢
        simp only at hw ⊢
        obtain ⟨k, k1, k2, k3, k4, k5⟩ := ih _ (by rw [List.length_drop]; omega) (x1.drop t.n) rfl (a + b + t.n) (ch + chS (x.take b) + chS (x1.take t.n)) hw
        rw [List.length_drop] at k1
        have hp := h.cut he (k := t.n + k) (by omega)
        have hcx : chS (x.take (b + (t.n + k))) = chS (x.take b) + (chS (x1.take t.n) + chS ((x1.drop t.n).take k)) := by
          have e1 := chS_cut hbx (show b ≤ b + (t.n + k) by omega)
          have e2 := chS_cut n1 (show t.n ≤ t.n + k by omega)
          rw [Nat.add_sub_cancel_left, hxe] at e1
          rw [Nat.add_sub_cancel_left] at e2
          rw [e1, e2]
        refine ⟨b + (t.n + k), by omega, hbx.trans (by rw [hxe]; exact n1.trans k2), by rw [k3]; omega, by rw [k4, hcx]; omega, ?_⟩
        have t1 : (x.take (b + (t.n + k))).take b = x.take b := by rw [List.take_take, Nat.min_eq_left (by omega)]
        have t2 : (x1.take (t.n + k)).take t.n = x1.take t.n := by rw [List.take_take, Nat.min_eq_left (by omega)]
        have t3 : (x1.take (t.n + k)).drop t.n = (x1.drop t.n).take k := by rw [take_drop', Nat.add_sub_cancel_left]
        rw [lexW_tok hp he, t1, t2, t3, k5]
      · rw [lexW_bad h he]
        refine ⟨b, l1, hbx, rfl, rfl, ?_⟩
        rw [lexW_nil]
        rw [runS_take blankR blank_run.2.2.2.2 _ x b rfl (by omega), hbe, List.length_take]
        omega
def blB (c : UInt8) : Bool := blankR (c.toNat : Nat)
theorem dec_blank {x : Str} (h : blankR (dec x 0).1 = true) : bt x 0 < 128 ∧ dec x 0 = (bt x 0, 1) := by
  have h1 : (dec x 0).1 < 128 := by
    simp only [blankR, Bool.or_eq_true, decide_eq_true_eq] at h
    omega
  have h2 := dec_small h1
  exact ⟨h2, dec_ascii h2⟩
theorem run_blank : ∀ (n : Nat) (x : Str), x.length = n → ∀ i, i < runS blankR x → blB (x.getD i 0) = true := by
  intro n
  induction n using Nat.strongRecOn with
  | _ n ih =>
    intro x hn i hi
    by_cases hs : x.length = 0
    · rw [runS_nil hs] at hi; omega
    · cases hp : blankR (dec x 0).1 with
      | false => rw [runS_no hp] at hi; omega
      | true =>
        obtain ⟨h1, h2⟩ := dec_blank hp
        rw [runS_yes hs hp, h2] at hi
        rw [h2] at hp
        cases i with
        | zero => exact hp
        | succ i =>
          have := ih _ (by simp; omega) (x.drop 1) rfl i (by simp only at hi; omega)
          rw [List.getD_eq_getElem?_getD, List.getElem?_drop, Nat.add_comm] at this
          rw [List.getD_eq_getElem?_getD]; exact this
theorem run_end : ∀ (n : Nat) (x : Str), x.length = n → runS blankR x < x.length → blB (x.getD (runS blankR x) 0) = false := by
  intro n
  induction n using Nat.strongRecOn with
  | _ n ih =>
    intro x hn hi
    have hs : x.length ≠ 0 := by omega
    cases hp : blankR (dec x 0).1 with
    | false =>
      rw [runS_no hp]
      cases hb : blB (x.getD 0 0) with
      | false => rfl
      | true =>
        have h1 : bt x 0 < 128 := by
          have hb : blankR ((bt x 0 : Nat) : Int) = true := hb
          simp only [blankR, Bool.or_eq_true, decide_eq_true_eq] at hb
          omega
        rw [dec_ascii h1] at hp
        rw [show blB (x.getD 0 0) = blankR ((bt x 0 : Nat) : Int) from rfl, hp] at hb
        cases hb
    | true =>
      obtain ⟨h1, h2⟩ := dec_blank hp
      rw [runS_yes hs hp, h2] at hi ⊢
      simp only at hi ⊢
      have := ih _ (by simp; omega) (x.drop 1) rfl (by simp only [List.length_drop]; omega)
      rw [List.getD_eq_getElem?_getD, List.getElem?_drop] at this
      rw [List.getD_eq_getElem?_getD]; exact this
def PlOk (x : Str) (a ch : Nat) (w : Wd) : Prop := ∃ k, k < x.length ∧ Bd x k ∧ w.at' = a + k ∧ w.ch = ch + chS (x.take k) ∧ blB (x.getD k 0) = false
theorem lex_places : ∀ (n : Nat) (x : Str), x.length = n → ∀ (a ch : Nat), (∀ w ∈ (lexW x a ch).1, PlOk x a ch w) ∧ (lexW x a ch).1.Pairwise (fun v w => v.at' < w.at') ∧
    ((lexW x a ch).2.why = 0 → (∀ i, i < x.length → (∀ w ∈ (lexW x a ch).1.head?, a + i < w.at') → blB (x.getD i 0) = true)) := by
  intro n
  induction n using Nat.strongRecOn with
  | _ n ih =>
    intro x hn a ch
    rcases part_of x with h | h
    · rw [lexW_nil h]
      exact ⟨by simp, List.Pairwise.nil, fun _ i hi _ => run_blank _ x rfl i (by omega)⟩
    · obtain ⟨l1, l2⟩ := h.lt
      have hbx := h.bd
      have hend := run_end _ x rfl
      have hbl := run_blank _ x rfl
      generalize hbe : runS blankR x = b at *
      generalize hxe : x.drop b = x1 at *
      generalize hte : tokS x1 = t at *
      by_cases he : t.err = 0
      · obtain ⟨n1, n2, n3, _⟩ := h.tokN he
        obtain ⟨i1, i2, _⟩ := ih _ (by rw [List.length_drop]; omega) (x1.drop t.n) rfl (a + b + t.n) (ch + chS (x.take b) + chS (x1.take t.n))
        rw [lexW_tok h he]
        have hpl : ∀ w, PlOk (x1.drop t.n) (a + b + t.n) (ch + chS (x.take b) + chS (x1.take t.n)) w → PlOk x a ch w ∧ a + b < w.at' := by
          rintro w ⟨k, k1, k2, k3, k4, k5⟩
          rw [List.length_drop] at k1
          have hcx : chS (x.take (b + (t.n + k))) = chS (x.take b) + (chS (x1.take t.n) + chS ((x1.drop t.n).take k)) := by
            have e1 := chS_cut hbx (show b ≤ b + (t.n + k) by omega)
            have e2 := chS_cut n1 (show t.n ≤ t.n + k by omega)
            rw [Nat.add_sub_cancel_left, hxe] at e1
            rw [Nat.add_sub_cancel_left] at e2
            rw [e1, e2]
          refine ⟨⟨b + (t.n + k), by omega, hbx.trans (by rw [hxe]; exact n1.trans k2), by rw [k3]; omega, by rw [k4, hcx]; omega, ?_⟩, by rw [k3]; omega⟩
          rw [← hxe, List.getD_eq_getElem?_getD, List.getElem?_drop, List.getElem?_drop] at k5
          rw [List.getD_eq_getElem?_getD]; exact k5
        refine ⟨fun w hw => ?_, ?_, fun _ i hi hh => ?_⟩
        · rcases List.mem_cons.1 hw with rfl | hw
          · exact ⟨b, l1, hbx, rfl, rfl, hend l1⟩
          · exact (hpl w (i1 w hw)).1
        · exact List.pairwise_cons.2 ⟨fun w hw => (hpl w (i1 w hw)).2, i2⟩
        · have := hh _ (by simp; rfl)
          exact hbl i (by simp only at this; omega)
      · rw [lexW_bad h he]
        exact ⟨by simp, List.Pairwise.nil, fun h0 => absurd h0 he⟩

end Tab

/- Words written down and read again: plain. -/
namespace Tab
open Go
set_option maxRecDepth 10000
set_option linter.unusedVariables false
set_option linter.unusedSimpArgs false
set_option linter.unusedSectionVars false

def dgL (n : Nat) : Str := if h : n ≤ 9 then [UInt8.ofNat (48 + n)] else dgL (n / 10) ++ [UInt8.ofNat (48 + n % 10)]
termination_by n
decreasing_by omega
theorem dgL_small {n : Nat} (h : n ≤ 9) : dgL n = [UInt8.ofNat (48 + n)] := by rw [dgL, dif_pos h]
theorem dgL_big {n : Nat} (h : ¬ n ≤ 9) : dgL n = dgL (n / 10) ++ [UInt8.ofNat (48 + n % 10)] := by rw [dgL, dif_neg h]
theorem u8_dig {d : Nat} (h : d ≤ 9) : (UInt8.ofNat (48 + d)).toNat = 48 + d := by show (48 + d) % 256 = 48 + d; omega
theorem numL_app : ∀ (t : Str) (a : Nat) (c : UInt8), numL a (t ++ [c]) = (numL a t).bind fun m => numL m [c]
  | [], a, c => rfl
  | x :: t, a, c => by
    rw [List.cons_append, numL, numL]
    split
    · rfl
    · exact numL_app t _ c
theorem numL_one {m d : Nat} (h : d ≤ 9) (hm : 10 * m + d ≤ 9223372036854775807) : numL m [UInt8.ofNat (48 + d)] = some (10 * m + d) := by
  rw [numL, u8_dig h, Nat.add_sub_cancel_left, if_neg (by omega)]; rfl
theorem numS_dg : ∀ (n : Nat), n ≤ 9223372036854775807 → numS (dgL n) = some n := by
  intro n
  induction n using Nat.strongRecOn with
  | _ n ih =>
    intro hn
    by_cases h : n ≤ 9
    · rw [dgL_small h, numS, numL_one h (by omega)]; congr 1; omega
    · have h1 := ih (n / 10) (by omega) (by omega)
      rw [numS] at h1
      rw [dgL_big h, numS, numL_app, h1]
      show numL (n / 10) _ = _
      rw [numL_one (by omega) (by omega)]; congr 1; omega
theorem dg_chars : ∀ (n : Nat), ∀ c ∈ dgL n, 48 ≤ c.toNat ∧ c.toNat ≤ 57 := by
  intro n
  induction n using Nat.strongRecOn with
  | _ n ih =>
    intro c hc
    by_cases h : n ≤ 9
    · rw [dgL_small h] at hc
      rw [List.mem_singleton.1 hc, u8_dig h]; omega
    · rw [dgL_big h] at hc
      rcases List.mem_append.1 hc with hc | hc
      · exact ih _ (by omega) c hc
      · rw [List.mem_singleton.1 hc, u8_dig (by omega)]; omega
theorem dg_ne (n : Nat) : dgL n ≠ [] := by
  by_cases h : n ≤ 9
  · rw [dgL_small h]; simp
  · rw [dgL_big h]; simp
theorem run_all (p : Int → Bool) : ∀ (z : Str), (∀ c ∈ z, c.toNat < 128 ∧ p (c.toNat : Nat) = true) → runS p z = z.length
  | [], _ => runS_nil rfl
  | c :: z, h => by
    have hd : dec (c :: z) 0 = (c.toNat, 1) := dec_ascii (h c (by simp)).1
    rw [runS_yes (by simp) (by rw [hd]; exact (h c (by simp)).2), hd]
    show 1 + runS p z = _
    rw [run_all p z fun x hx => h x (by simp [hx]), List.length_cons]; omega
theorem dig_no {r : Nat} (h1 : 48 ≤ r) (h2 : r ≤ 57) : startR (r : Int) = false ∧ digR (r : Int) = true := by
  constructor
  · unfold startR; simp; omega
  · simp [digR]; omega
theorem tok_dg {n : Nat} (hn : n ≤ 9223372036854775807) : tokS (dgL n) = ⟨1, [], n, (dgL n).length, 0⟩ := by
  have hc := dg_chars n
  have hr := run_all digR (dgL n) fun c h => ⟨by have := hc c h; omega, (dig_no (hc c h).1 (hc c h).2).2⟩
  have hs := numS_dg n hn
  cases e : dgL n with
  | nil => exact absurd e (dg_ne n)
  | cons c z =>
    rw [e] at hc hr hs
    obtain ⟨h1, h2⟩ := hc c (by simp)
    have hd : dec (c :: z) 0 = (c.toNat, 1) := dec_ascii (by show c.toNat < 128; omega)
    obtain ⟨k1, k2⟩ := dig_no h1 h2
    rw [tokS, hd, if_neg (by simp only; omega), if_neg (by simp only; rw [k1]; simp), if_pos (by simpa using k2), hr, List.take_length, hs]
theorem numL_le : ∀ (t : Str) (a v : Nat), a ≤ 9223372036854775807 → (∀ c ∈ t, 48 ≤ c.toNat ∧ c.toNat ≤ 57) → numL a t = some v → v ≤ 9223372036854775807
  | [], a, v, ha, _, h => by rw [numL] at h; cases h; exact ha
  | c :: t, a, v, ha, hc, h => by
    rw [numL] at h
    split at h
    · cases h
    · rename_i hn
      have := hc c (by simp)
      exact numL_le t _ v (by omega) (fun x hx => hc x (by simp [hx])) h
theorem run_chars (p : Int → Bool) (hp : ∀ r : Nat, p r = true → r < 128) : ∀ (n : Nat) (x : Str), x.length = n → ∀ c ∈ x.take (runS p x), p (c.toNat : Nat) = true := by
  intro n
  induction n using Nat.strongRecOn with
  | _ n ih =>
    intro x hn c hc
    by_cases hs : x.length = 0
    · rw [runS_nil hs] at hc; simp at hc
    · cases h : p (dec x 0).1 with
      | false => rw [runS_no h] at hc; simp at hc
      | true =>
        have h1 := dec_ascii (dec_small (s := x) (p := 0) (hp _ h))
        cases x with
        | nil => simp at hs
        | cons d x =>
          rw [runS_yes hs h, h1] at hc
          rw [h1] at h
          simp only [List.drop_succ_cons, List.drop_zero] at hc
          rw [Nat.add_comm, List.take_succ_cons] at hc
          rcases List.mem_cons.1 hc with rfl | hc
          · exact h
          · exact ih _ (by rw [← hn]; simp) x rfl c hc
theorem plain_mem {r : Int} (h : plainS r ≠ []) : plainS r ∈ plainT.map (·.2) := by
  rw [plainS] at h ⊢
  cases e : plainT.find? fun p => decide (r = p.1) with
  | none => rw [e] at h; exact absurd rfl h
  | some p =>
    rw [e] at h
    exact List.mem_map.2 ⟨p, List.mem_of_find?_eq_some e, rfl⟩
def wrT (k : Int) (t : Str) (v : Nat) : Str := if k = 1 then dgL v else t
theorem tok_noblank {z : Str} (hz : z.length ≠ 0) (h : (tokS z).err = 0) : runS blankR z = 0 := by
  cases hb : blankR (dec z 0).1 with
  | false => exact runS_no hb
  | true =>
    exfalso
    obtain ⟨h1, h2⟩ := dec_blank hb
    have hr : bt z 0 = 32 ∨ bt z 0 = 9 ∨ bt z 0 = 10 ∨ bt z 0 = 13 := by
      rw [h2] at hb
      simp only [blankR, Bool.or_eq_true, decide_eq_true_eq] at hb
      omega
    have hs : signT z = tokBad 51 := by
      rw [signT]
      have : (signL.find? fun t => t.isPrefixOf z) = none := by
        rw [List.find?_eq_none]
        intro t ht hp
        cases z with
        | nil => simp at hz
        | cons c z =>
          have hc : c.toNat = 32 ∨ c.toNat = 9 ∨ c.toNat = 10 ∨ c.toNat = 13 := hr
          have hf : (signL.all fun t => match t with | [] => false | d :: _ => decide (d.toNat ≠ 32) && decide (d.toNat ≠ 9) && decide (d.toNat ≠ 10) && decide (d.toNat ≠ 13)) = true := by kernel_rfl
          have hf := List.all_eq_true.1 hf t ht
          cases t with
          | nil => simp at hf
          | cons d t =>
            simp only [List.isPrefixOf, Bool.and_eq_true, beq_iff_eq] at hp
            obtain ⟨rfl, _⟩ := hp
            simp only [Bool.and_eq_true, decide_eq_true_eq] at hf
            omega
      rw [this]
    rw [tokS, h2] at h
    have k1 : startR ((bt z 0 : Nat) : Int) = false := by unfold startR; rcases hr with e | e | e | e <;> rw [e] <;> decide
    have k2 : digR ((bt z 0 : Nat) : Int) = false := by rcases hr with e | e | e | e <;> rw [e] <;> decide
    have k3 : plainS ((bt z 0 : Nat) : Int) = [] := by rcases hr with e | e | e | e <;> rw [e] <;> decide
    simp only at h
    rw [if_neg (by omega), if_neg (by rw [k1]; simp), if_neg (by rw [k2]; simp), if_neg (by rw [k3]; simp), hs] at h
    simp [tokBad] at h
def Ag (w : Wd) : Prop := tokS (wrT w.kind w.text w.num) = ⟨w.kind, w.text, w.num, (wrT w.kind w.text w.num).length, 0⟩ ∧ (wrT w.kind w.text w.num).length ≠ 0
end Tab

/- Texts of trees: plain. -/
namespace Tab
open Go
set_option maxRecDepth 10000
set_option linter.unusedVariables false
set_option linter.unusedSimpArgs false
set_option linter.unusedSectionVars false

mutual
def TT.nodes : TT → Nat
  | .mk _ _ _ _ args => 1 + ttsNodes args
def ttsNodes : List TT → Nat
  | [] => 0
  | t :: l => t.nodes + ttsNodes l
end
mutual
def TT.right : TT → Prop
  | .mk op num name k args => goodT (.mk op num name k args) = true ∧ ttsRight args
def ttsRight : List TT → Prop
  | [] => True
  | t :: l => t.right ∧ ttsRight l
end
mutual
def FT.nodes : FT → Nat
  | .mk _ _ _ _ terms _ args => 1 + ttsNodes terms + ftsNodes args
def ftsNodes : List FT → Nat
  | [] => 0
  | t :: l => t.nodes + ftsNodes l
end
mutual
def FT.right : FT → Prop
  | .mk op name md tk terms ak args => goodF (.mk op name md tk terms ak args) = true ∧ ttsRight terms ∧ ftsRight args
def ftsRight : List FT → Prop
  | [] => True
  | t :: l => t.right ∧ ftsRight l
end
theorem nodeM_ok {m : Ms} {d : Nat} {g : Bool} (h : (nodeM m d g).err = 0) : (nodeM m d g).size = m.size + 1 ∧ m.size + 1 ≤ 500 ∧ d ≤ 40 ∧ g = true ∧ m.err = 0 := by
  simp only [nodeM] at h ⊢
  split at h
  · simp at h
  · split at h
    · simp at h
    · split at h
      · exact ⟨trivial, by omega, by omega, by assumption, h⟩
      · simp at h
mutual
theorem TT.walk_right : ∀ (t : TT) (d : Nat) (m : Ms), (t.walk d m).err = 0 → t.right ∧ (t.walk d m).size = m.size + t.nodes ∧ (t.walk d m).size ≤ 500
  | .mk op num name k args, d, m, h => by
    rw [TT.walk] at h ⊢
    by_cases hn : (nodeM m d (goodT (.mk op num name k args))).err ≠ 0
    · rw [if_pos hn] at h; exact absurd h hn
    · rw [if_neg hn] at h ⊢
      obtain ⟨n1, n2, _, n4, _⟩ := nodeM_ok (Decidable.of_not_not hn)
      obtain ⟨a1, a2, a3⟩ := ttsWalk_right args _ _ h
      rw [TT.right, TT.nodes]
      exact ⟨⟨n4, a1⟩, by rw [a2, n1]; omega, a3 (by rw [n1]; omega)⟩
theorem ttsWalk_right : ∀ (l : List TT) (d : Nat) (m : Ms), (ttsWalk l d m).err = 0 → ttsRight l ∧ (ttsWalk l d m).size = m.size + ttsNodes l ∧ (m.size ≤ 500 → (ttsWalk l d m).size ≤ 500)
  | [], d, m, h => by simp [ttsWalk, ttsRight, ttsNodes]
  | t :: l, d, m, h => by
    rw [ttsWalk] at h ⊢
    by_cases hn : (t.walk d m).err ≠ 0
    · rw [if_pos hn] at h; exact absurd h hn
    · rw [if_neg hn] at h ⊢
      obtain ⟨a1, a2, a3⟩ := TT.walk_right t d m (Decidable.of_not_not hn)
      obtain ⟨b1, b2, b3⟩ := ttsWalk_right l d _ h
      rw [ttsRight, ttsNodes]
      exact ⟨⟨a1, b1⟩, by rw [b2, a2]; omega, fun _ => b3 a3⟩
end
mutual
theorem FT.walk_right : ∀ (t : FT) (d : Nat) (m : Ms), (t.walk d m).err = 0 → t.right ∧ (t.walk d m).size = m.size + t.nodes ∧ (t.walk d m).size ≤ 500
  | .mk op name md tk terms ak args, d, m, h => by
    rw [FT.walk] at h ⊢
    by_cases hn : (nodeM m d (goodF (.mk op name md tk terms ak args))).err ≠ 0
    · rw [if_pos hn] at h; exact absurd h hn
    · rw [if_neg hn] at h ⊢
      obtain ⟨n1, n2, _, n4, _⟩ := nodeM_ok (Decidable.of_not_not hn)
      by_cases ht : (ttsWalk terms (d + 1) (nodeM m d (goodF (.mk op name md tk terms ak args)))).err ≠ 0
      · rw [if_pos ht] at h; exact absurd h ht
      · rw [if_neg ht] at h ⊢
        obtain ⟨a1, a2, a3⟩ := ttsWalk_right terms _ _ (Decidable.of_not_not ht)
        obtain ⟨b1, b2, b3⟩ := ftsWalk_right args _ _ h
        rw [FT.right, FT.nodes]
        exact ⟨⟨n4, a1, b1⟩, by rw [b2, a2, n1]; omega, b3 (a3 (by rw [n1]; omega))⟩
theorem ftsWalk_right : ∀ (l : List FT) (d : Nat) (m : Ms), (ftsWalk l d m).err = 0 → ftsRight l ∧ (ftsWalk l d m).size = m.size + ftsNodes l ∧ (m.size ≤ 500 → (ftsWalk l d m).size ≤ 500)
  | [], d, m, h => by simp [ftsWalk, ftsRight, ftsNodes]
  | t :: l, d, m, h => by
    rw [ftsWalk] at h ⊢
    by_cases hn : (t.walk d m).err ≠ 0
    · rw [if_pos hn] at h; exact absurd h hn
    · rw [if_neg hn] at h ⊢
      obtain ⟨a1, a2, a3⟩ := FT.walk_right t d m (Decidable.of_not_not hn)
      obtain ⟨b1, b2, b3⟩ := ftsWalk_right l d _ h
      rw [ftsRight, ftsNodes]
      exact ⟨⟨a1, b1⟩, by rw [b2, a2]; omega, fun _ => b3 a3⟩
end
theorem chkT_right {t : TT} (h : chkT t = 0) : t.right ∧ t.nodes ≤ 500 := by
  obtain ⟨h1, h2, h3⟩ := TT.walk_right t 1 ms0 h
  exact ⟨h1, by rw [h2] at h3; simp [ms0] at h3; exact h3⟩
theorem chkF_right {t : FT} (h : chkF t = 0) : t.right ∧ t.nodes ≤ 500 := by
  obtain ⟨h1, h2, h3⟩ := FT.walk_right t 1 ms0 h
  exact ⟨h1, by rw [h2] at h3; simp [ms0] at h3; exact h3⟩

def bindsV (op : Int) : Int := if op = 3 ∨ op = 4 then 0 else if op = 5 then 1 else 2
def partS (x : List UInt8 × Int) (least : Int) : List UInt8 := if bindsV x.2 < least then ([91] ++ x.1) ++ [93] else x.1
def joinT (op num : Int) (name : List UInt8) (l : List (List UInt8 × Int)) : List UInt8 :=
  if op = 0 then dgL num.toNat else if op = 1 then name
  else if op = 2 then [45] ++ partS (l.getD 0 ([], 0)) 2
  else if op = 3 then (partS (l.getD 0 ([], 0)) 0 ++ [32, 43, 32]) ++ partS (l.getD 1 ([], 0)) 1
  else if op = 4 then (partS (l.getD 0 ([], 0)) 0 ++ [32, 45, 32]) ++ partS (l.getD 1 ([], 0)) 1
  else (partS (l.getD 0 ([], 0)) 1 ++ [32, 42, 32]) ++ partS (l.getD 1 ([], 0)) 2
mutual
def TT.tx : TT → List UInt8
  | .mk op num name _ args => joinT op num name (ttsTx args)
def ttsTx : List TT → List (List UInt8 × Int)
  | [] => []
  | t :: l => (t.tx, t.op) :: ttsTx l
end
def signF (op : Int) : List UInt8 :=
  if op = 3 then [32, 97, 110, 100, 32] else if op = 4 then [32, 111, 114, 32] else if op = 5 then [32, 45, 62, 32] else if op = 6 then [32, 60, 45, 62, 32]
  else if op = 9 then [32, 60, 61, 32] else if op = 10 then [32, 60, 32] else if op = 11 then [32, 62, 61, 32] else if op = 12 then [32, 62, 32] else if op = 13 then [32, 61, 32] else if op = 14 then [32, 33, 61, 32] else [32, 126, 32]
def joinF (op : Int) (name : List UInt8) (md : Int) (ts l : List (List UInt8)) : List UInt8 :=
  if op = 0 then [116, 114, 117, 101] else if op = 1 then [102, 97, 108, 115, 101]
  else if op = 2 then [110, 111, 116, 32] ++ l.getD 0 []
  else if op = 7 then (([101, 120, 32] ++ name) ++ [46, 32]) ++ l.getD 0 []
  else if op = 8 then (([97, 108, 108, 32] ++ name) ++ [46, 32]) ++ l.getD 0 []
  else if 3 ≤ op ∧ op ≤ 6 then ((([40] ++ l.getD 0 []) ++ signF op) ++ l.getD 1 []) ++ [41]
  else if op = 15 then (((ts.getD 0 [] ++ [32, 126, 32]) ++ ts.getD 1 []) ++ [32, 109, 111, 100, 32]) ++ dgL md.toNat
  else (ts.getD 0 [] ++ signF op) ++ ts.getD 1 []
mutual
def FT.tx : FT → List UInt8
  | .mk op name md _ terms _ args => joinF op name md (terms.map TT.tx) (ftsTx args)
def ftsTx : List FT → List (List UInt8)
  | [] => []
  | t :: l => t.tx :: ftsTx l
end
end Tab

/- Nodes that are well made. -/
namespace Tab
open Go Go.Proofs
set_option maxRecDepth 10000
set_option linter.unusedVariables false
set_option linter.unusedSimpArgs false
set_option linter.unusedSectionVars false
set_option maxHeartbeats 1000000

abbrev tC (op num : Int) (name : List UInt8) (k : SK) (args : List TT) : List AV := [.int .i64 op, .int .i64 num, .str name, .sl k args.length (ttsC args)]
theorem tC_closed (op num : Int) (name : List UInt8) (k : SK) (args : List TT) : (AV.agg (tC op num name k args)).closed := by
  simp only [AV.closed, closeds, true_and, and_true]; exact ttsC_closed args
abbrev fC5 (op : Int) (name : List UInt8) (md : Int) (tk : SK) (terms : List TT) (ak : SK) (args : List FT) : List AV := [.int .i64 op, .str name, .int .i64 md, .sl tk terms.length (ttsC terms), .sl ak args.length (ftsC args)]
theorem fC5_closed (op : Int) (name : List UInt8) (md : Int) (tk : SK) (terms : List TT) (ak : SK) (args : List FT) : (AV.agg (fC5 op name md tk terms ak args)).closed := by
  simp only [AV.closed, closeds, true_and, and_true]; exact ⟨ttsC_closed terms, ftsC_closed args⟩

theorem tree_term (t : TT) (hn : t.name.length < 2^62) : Pure Tryd.prog 82 [.agg t.cells] (.bool (goodT t)) := by
  rw [TT.cells_eq]
  rcases t with ⟨op, num, name, k, args⟩
  simp only [TT.op, TT.num, TT.name, TT.k, TT.args] at hn ⊢
  have hg : goodT ⟨op, num, name, k, args⟩ = if op = 0 then decide (0 ≤ num) && decide (name = []) && decide (args.length = 0)
    else if op = 1 then decide (num = 0) && nameS name && decide (args.length = 0)
    else if op = 2 then decide (num = 0) && decide (name = []) && decide (args.length = 1)
    else if op = 3 ∨ op = 4 ∨ op = 5 then decide (num = 0) && decide (name = []) && decide (args.length = 2)
    else false := rfl
  rw [hg]
  clear hg
  refine Pure.of_sw 69 Tryd.func82 rfl Tryd.ntmps82 (by kernel_rfl) (Nat.le_of_ble_eq_true (by kernel_rfl)) (by simp only [closeds]; exact ⟨tC_closed op num name k args, trivial⟩) (by simp only [AV.closed]) ?_
  refine SW.of_vc ?_
  repeat first | refine opsStep ?_ | refine codeStep ?_ | refine drawStep ?_
  refine SW.drawn rfl (by kernel_rfl) ?_
  repeat first | refine opsStep ?_ | refine codeStep ?_ | refine drawStep ?_
  refine ⟨by kernel_rfl, ?_⟩
  repeat first | refine opsStep ?_ | refine codeStep ?_ | refine drawStep ?_
  refine decB_dec (fun h0 => ?_) (fun h0 => ?_)
  · have h0 : op = 0 := h0
    rw [if_pos h0]
    repeat' first | refine opsStep ?_ | refine codeStep ?_ | refine decB_split (fun h => ?_) (fun h => ?_)
    all_goals exact finB rfl (by simp_all; try omega)
  · have h0 : ¬ op = 0 := h0
    rw [if_neg h0]
    repeat first | refine opsStep ?_ | refine codeStep ?_ | refine drawStep ?_
    refine decB_dec (fun h1 => ?_) (fun h1 => ?_)
    · have h1 : op = 1 := h1
      rw [if_pos h1]
      repeat first | refine opsStep ?_ | refine codeStep ?_ | refine drawStep ?_
      refine decB_split (fun h => ?_) (fun h => ?_)
      · repeat first | refine opsStep ?_ | refine codeStep ?_ | refine drawStep ?_
        refine callP (glyph_Name name hn) ?_
        repeat' first | refine opsStep ?_ | refine codeStep ?_ | refine decB_split (fun h => ?_) (fun h => ?_)
        all_goals exact finB rfl (by simp_all; try omega)
      · repeat first | refine opsStep ?_ | refine codeStep ?_ | refine drawStep ?_
        exact finB rfl (by simp_all)
    · have h1 : ¬ op = 1 := h1
      rw [if_neg h1]
      repeat first | refine opsStep ?_ | refine codeStep ?_ | refine drawStep ?_
      refine decB_dec (fun h2 => ?_) (fun h2 => ?_)
      · have h2 : op = 2 := h2
        rw [if_pos h2]
        repeat' first | refine opsStep ?_ | refine codeStep ?_ | refine decB_split (fun h => ?_) (fun h => ?_)
        all_goals exact finB rfl (by simp_all; try omega)
      · have h2 : ¬ op = 2 := h2
        rw [if_neg h2]
        repeat' first | refine opsStep ?_ | refine codeStep ?_ | refine decB_split (fun h => ?_) (fun h => ?_)
        all_goals exact finB rfl (by simp_all; try omega)

end Tab

/- The walks that measure trees. -/
namespace Tab
open Go Go.Proofs
set_option maxRecDepth 10000
set_option linter.unusedVariables false
set_option linter.unusedSimpArgs false
set_option linter.unusedSectionVars false
set_option maxHeartbeats 1000000

def msC (m : Ms) : List AV := [.int .i64 m.size, .int .i64 m.depth, .int .i64 m.err]
theorem msC_closed (m : Ms) : closeds (msC m) := by simp [msC, closeds, AV.closed]
theorem msC_bel (n : Nat) (m : Ms) : bels n (msC m) := closeds_bel _ (msC_closed m)
structure MsOk (m : Ms) (d : Nat) : Prop where
  size : m.size ≤ 500
  dep : m.depth ≤ 100
  d : d ≤ 50
theorem nodeM_bd {m : Ms} {d : Nat} {g : Bool} (h : MsOk m d) (he : (nodeM m d g).err = 0) : MsOk (nodeM m d g) (d + 1) := by
  obtain ⟨h1, h2, h3, _, _⟩ := nodeM_ok he
  have := h.dep
  have := h.d
  exact ⟨by omega, by simp only [nodeM]; omega, by omega⟩

theorem met1 (m : Ms) (d : Nat) (g : Bool) (hm : MsOk m d) (he : m.err = 0) : ACall Tryd.prog 81 [.int .i64 d, .bool g, .ref 1 0 0] [.cells 0 (msC m), .cells 0 [.ref 0 0 0]] fun o H' => o = .ret (.bool (decide ((nodeM m d g).err = 0))) ∧ H' = [.cells 0 (msC (nodeM m d g)), .cells 0 [.ref 0 0 0]] := by
  have h1 := hm.size
  have h2 := hm.dep
  have h3 := hm.d
  have e1 : IntKind.wrap .i64 ((m.size : Int) + 1) = ((m.size + 1 : Nat) : Int) := by rw [IntWalk.i64_in _ (by omega)]; simp
  have e2 : (if (d : Int) > (m.depth : Int) then (d : Int) else (m.depth : Int)) = ((max m.depth d : Nat) : Int) := by split <;> omega
  refine ACall.of_sw 48 Tryd.func81 rfl Tryd.ntmps81 (by kernel_rfl) (Nat.le_of_ble_eq_true (by kernel_rfl)) ?_; refine SW.of_vc ?_
  repeat first | refine opsStep ?_ | refine codeStep ?_ | refine drawStep ?_
  refine SW.drawn rfl (by kernel_rfl) ?_
  repeat first | refine opsStep ?_ | refine codeStep ?_ | refine drawStep ?_
  refine ⟨by kernel_rfl, ?_⟩
  refine VCode.ent (Ent.fr' (l := [(0, .int .i64 d), (1, .bool g), (2, .ref 1 0 0)]) (H' := [.cells 0 [.int .i64 (m.size + 1 : Nat), .int .i64 (max m.depth d : Nat), .int .i64 m.err], .cells 0 [.ref 0 0 0]]) ⟨(by kernel_rfl), (by kernel_rfl), (by kernel_rfl), trivial⟩ (Eq.trans (b := [.cells 0 [.int .i64 (IntKind.wrap .i64 ((m.size : Int) + 1)), .int .i64 (if (d : Int) > (m.depth : Int) then (d : Int) else (m.depth : Int)), .int .i64 m.err], .cells 0 [.ref 0 0 0]]) (by kernel_rfl) (by rw [e1, e2]))) ?_
  repeat first | refine opsStep ?_ | refine codeStep ?_ | refine drawStep ?_
  refine decB_dec (fun c1 => ?_) (fun c1 => ?_)
  · have c1 : ((m.size + 1 : Nat) : Int) > 500 := c1
    have hn : nodeM m d g = ⟨m.size + 1, max m.depth d, 73⟩ := by rw [nodeM, if_pos (by omega)]
    rw [hn]
    repeat first | refine opsStep ?_ | refine codeStep ?_ | refine drawStep ?_
    refine finR (l := [(5, .bool false)]) (v := .bool false) (H₁ := [.cells 0 [.int .i64 (m.size + 1 : Nat), .int .i64 (max m.depth d : Nat), .int .i64 73], .cells 0 [.ref 0 0 0]]) ⟨(by kernel_rfl), trivial⟩ (by kernel_rfl) (Ent.refl _ _ _) (by kernel_rfl) ⟨rfl, rfl⟩
  · have c1 : ¬ ((m.size + 1 : Nat) : Int) > 500 := c1
    repeat first | refine opsStep ?_ | refine codeStep ?_ | refine drawStep ?_
    refine decB_dec (fun c2 => ?_) (fun c2 => ?_)
    · have c2 : (d : Int) > 40 := c2
      have hn : nodeM m d g = ⟨m.size + 1, max m.depth d, 72⟩ := by rw [nodeM, if_neg (by omega), if_pos (by omega)]
      rw [hn]
      repeat first | refine opsStep ?_ | refine codeStep ?_ | refine drawStep ?_
      refine finR (l := [(5, .bool false)]) (v := .bool false) (H₁ := [.cells 0 [.int .i64 (m.size + 1 : Nat), .int .i64 (max m.depth d : Nat), .int .i64 72], .cells 0 [.ref 0 0 0]]) ⟨(by kernel_rfl), trivial⟩ (by kernel_rfl) (Ent.refl _ _ _) (by kernel_rfl) ⟨rfl, rfl⟩
    · have c2 : ¬ (d : Int) > 40 := c2
      cases g with
      | true =>
        have hn : nodeM m d true = ⟨m.size + 1, max m.depth d, m.err⟩ := by rw [nodeM, if_neg (by omega), if_neg (by omega), if_pos rfl]
        rw [hn]
        repeat first | refine opsStep ?_ | refine codeStep ?_ | refine drawStep ?_
        refine finR (l := [(5, .bool (decide (m.err = 0)))]) (v := .bool (decide (m.err = 0))) (H₁ := [.cells 0 [.int .i64 (m.size + 1 : Nat), .int .i64 (max m.depth d : Nat), .int .i64 m.err], .cells 0 [.ref 0 0 0]]) ⟨(by kernel_rfl), trivial⟩ (by kernel_rfl) (Ent.refl _ _ _) (by kernel_rfl) ⟨rfl, rfl⟩
      | false =>
        have hn : nodeM m d false = ⟨m.size + 1, max m.depth d, 3⟩ := by rw [nodeM, if_neg (by omega), if_neg (by omega), if_neg (by simp)]
        rw [hn]
        repeat first | refine opsStep ?_ | refine codeStep ?_ | refine drawStep ?_
        refine finR (l := [(5, .bool false)]) (v := .bool false) (H₁ := [.cells 0 [.int .i64 (m.size + 1 : Nat), .int .i64 (max m.depth d : Nat), .int .i64 3], .cells 0 [.ref 0 0 0]]) ⟨(by kernel_rfl), trivial⟩ (by kernel_rfl) (Ent.refl _ _ _) (by kernel_rfl) ⟨rfl, rfl⟩

end Tab

/- The walk over a term. -/
namespace Tab
open Go Go.Proofs
set_option maxRecDepth 10000
set_option linter.unusedVariables false
set_option linter.unusedSimpArgs false
set_option linter.unusedSectionVars false
set_option maxHeartbeats 1000000

mutual
theorem TT.walk_dep : ∀ (t : TT) (d : Nat) (m : Ms), (t.walk d m).err = 0 → m.depth ≤ 100 → (t.walk d m).depth ≤ 100
  | .mk op num name k args, d, m, h, hm => by
    rw [TT.walk] at h ⊢
    by_cases hn : (nodeM m d (goodT (.mk op num name k args))).err ≠ 0
    · rw [if_pos hn] at h; exact absurd h hn
    · rw [if_neg hn] at h ⊢
      obtain ⟨_, _, n3, _, _⟩ := nodeM_ok (Decidable.of_not_not hn)
      exact ttsWalk_dep args _ _ h (by simp only [nodeM]; omega)
theorem ttsWalk_dep : ∀ (l : List TT) (d : Nat) (m : Ms), (ttsWalk l d m).err = 0 → m.depth ≤ 100 → (ttsWalk l d m).depth ≤ 100
  | [], d, m, h, hm => by simpa [ttsWalk] using hm
  | t :: l, d, m, h, hm => by
    rw [ttsWalk] at h ⊢
    by_cases hn : (t.walk d m).err ≠ 0
    · rw [if_pos hn] at h; exact absurd h hn
    · rw [if_neg hn] at h ⊢
      exact ttsWalk_dep l d _ h (TT.walk_dep t d m (Decidable.of_not_not hn) hm)
end
theorem TT.walk_ok {t : TT} {d : Nat} {m : Ms} (h : MsOk m d) (he : (t.walk d m).err = 0) : MsOk (t.walk d m) d :=
  ⟨(TT.walk_right t d m he).2.2, TT.walk_dep t d m he h.dep, h.d⟩
def wF : AV := .fn (.func 81) [] [.ref 1 0 0]
def mH (m : Ms) : List Blk := [.cells 0 (msC m), .cells 0 [.ref 0 0 0]]
theorem mH_bel (m : Ms) : blksBel 2 (mH m) := by
  simp only [mH, blksBel, Blk.bel]
  exact ⟨msC_bel _ _, by simp [bels, AV.bel], trivial⟩
theorem tts_nodes : ∀ {l : List TT} {i : Nat} (h : i < l.length), (l[i]'h).nodes ≤ ttsNodes l
  | t :: l, 0, h => by rw [ttsNodes]; show t.nodes ≤ _; omega
  | t :: l, i + 1, h => by rw [ttsNodes]; have := tts_nodes (l := l) (i := i) (by simpa using h); show (l[i]'_).nodes ≤ _; omega
theorem ttsWalk_drop {l : List TT} {i : Nat} (h : i < l.length) (d : Nat) (m : Ms) : ttsWalk (l.drop i) d m = if ((l[i]'h).walk d m).err ≠ 0 then (l[i]'h).walk d m else ttsWalk (l.drop (i + 1)) d ((l[i]'h).walk d m) := by
  rw [List.drop_eq_getElem_cons h, ttsWalk]

theorem over4 {l : List AV} (h : l.length = 4) (a b c d : AV) : over [a, b, c, d] 0 l = l := by
  rw [over, h]; simp

theorem walk_term : ∀ (n : Nat) (t : TT), t.nodes ≤ n → t.ok → ∀ (m : Ms) (d : Nat), MsOk m d → m.err = 0 → ACall Tryd.prog 55 [wF, .agg t.cells, .int .i64 d] (mH m) fun o H' => o = .ret (.bool (decide ((t.walk d m).err = 0))) ∧ H' = mH (t.walk d m) := by
  intro n
  induction n with
  | zero => intro t h; rcases t with ⟨op, num, name, k, args⟩; rw [TT.nodes] at h; omega
  | succ n ih =>
    intro t hnodes hok m d hm he
    have hgood := tree_term t (by cases t; rw [TT.ok] at hok; have := hok.2.2.1; show List.length _ < _; simp only [TT.name]; omega)
    have hwk := TT.walk_eq t d m
    rw [TT.cells_eq] at hgood ⊢
    rcases t with ⟨op, num, name, k, args⟩
    rw [TT.ok] at hok
    rw [TT.nodes] at hnodes
    generalize goodT ⟨op, num, name, k, args⟩ = g at *
    generalize TT.walk ⟨op, num, name, k, args⟩ d m = w at *
    simp only [TT.op, TT.num, TT.name, TT.k, TT.args] at hgood hwk ⊢
    have hal := hok.2.2.2.1
    have hao := hok.2.2.2.2
    have hd := hm.d
    refine ACall.of_sw 29 Tryd.func55 rfl Tryd.ntmps55 (by kernel_rfl) (Nat.le_of_ble_eq_true (by kernel_rfl)) ?_; refine SW.of_vc ?_
    repeat first | refine opsStep ?_ | refine codeStep ?_ | refine drawStep ?_
    refine callP hgood ?_
    repeat first | refine opsStep ?_ | refine codeStep ?_ | refine drawStep ?_
    refine callT (args := [.int .i64 d, .bool g, .ref 1 0 0]) (met1 m d g hm he) [.cells 0 (tC op num name k args)] rfl rfl (by simp [bels, AV.bel]) (mH_bel m) (mH_bel _) (by simp [AV.bel]) ?_
    repeat first | refine opsStep ?_ | refine codeStep ?_ | refine drawStep ?_
    refine decB_split (fun h => ?_) (fun h => ?_)
    · have hne : (nodeM m d g).err ≠ 0 := by simpa using h
      rw [if_pos hne] at hwk
      repeat first | refine opsStep ?_ | refine codeStep ?_ | refine drawStep ?_
      refine finR (l := [(6, .bool false)]) (v := .bool false) (H₁ := mH (nodeM m d g) ++ [.cells 0 (tC op num name k args)]) ⟨(by kernel_rfl), trivial⟩ (by kernel_rfl) (Ent.frD (l := [(6, .bool false)]) ⟨(by kernel_rfl), trivial⟩ rfl (Nat.le_refl 2) (by simp [frBel, AV.bel]) (mH_bel _)) (by kernel_rfl) ⟨by rw [hwk, decide_eq_false hne], by rw [hwk]⟩
    · have hne : (nodeM m d g).err = 0 := by simpa using h
      rw [if_neg (by simp [hne])] at hwk
      have hm1 := nodeM_bd hm hne
      clear h
      repeat first | refine opsStep ?_ | refine codeStep ?_ | refine drawStep ?_
      refine loopE_of (ι := {x : Nat × Ms // x.1 ≤ args.length ∧ w = ttsWalk (args.drop x.1) (d + 1) x.2 ∧ MsOk x.2 (d + 1) ∧ x.2.err = 0}) (fun x => (fr [(0, wF), (2, .int .i64 d), (16, .sl k args.length (ttsC args)), (17, .int .i64 args.length), (18, .int .i64 x.1.1)], mH x.1.2)) (fun x => args.length - x.1.1)
        ⟨(0, nodeM m d g), Nat.zero_le _, hwk, hm1, hne⟩ (Ent.frD (X := [.cells 0 (tC op num name k args)]) ⟨(by kernel_rfl), (by kernel_rfl), (by kernel_rfl), (by kernel_rfl), (by kernel_rfl), trivial⟩ (by kernel_rfl) (Nat.le_refl 2) (by simp only [frBel, AV.bel, wF, bels]; exact ⟨⟨trivial, by show 1 < 2; decide, trivial⟩, trivial, closeds_bel _ (ttsC_closed _), trivial, trivial, trivial⟩) (mH_bel _)) ?_
      rintro ⟨⟨i, mi⟩, h1, h2, h3, h4⟩
      simp only at h1 h2 h3 h4
      repeat first | refine opsStep ?_ | refine codeStep ?_ | refine drawStep ?_
      refine decB_dec (fun hlt => ?_) (fun hlt => ?_)
      · have hi : i < args.length := by have : (i : Int) < args.length := hlt; omega
        clear hlt
        have hld : ((ttsC args).drop ((i : Int).toNat * 4)).take 4 = (args[i]'hi).cells := by rw [Int.toNat_natCast]; exact ttsC_at hi
        have hfit : 4 ≤ ((ttsC args).drop ((i : Int).toNat * 4)).length := by rw [List.length_drop, ttsC_len, Int.toNat_natCast]; omega
        have hdi : IntKind.wrap .i64 ((d : Int) + 1) = ((d + 1 : Nat) : Int) := by rw [IntWalk.i64_in _ (by omega)]; simp
        have hrec := ih (args[i]'hi) (by have := tts_nodes hi; omega) (ttsOk_iff.1 hao _ (List.getElem_mem hi)) mi (d + 1) h3 h4
        have hstep := ttsWalk_drop hi (d + 1) mi
        rw [← h2] at hstep
        have hao' := @TT.walk_ok (args[i]'hi) (d + 1) mi h3
        have haC := TT.cells_len (args[i]'hi)
        have haB : bels 2 (args[i]'hi).cells := closeds_bel _ (TT.cells_closed (args[i]'hi))
        rw [← hdi] at hrec
        generalize args[i]'hi = a at *
        generalize TT.walk a (d + 1) mi = wi at *
        repeat first | refine opsStep ?_ | refine codeStep ?_ | refine drawStep ?_
        refine guardE_of ⟨by omega, by show (i : Int) < args.length; omega⟩ ?_
        repeat first | refine opsStep ?_ | refine codeStep ?_ | refine drawStep ?_
        refine guardE_of hfit ?_
        repeat first | refine opsStep ?_ | refine codeStep ?_ | refine drawStep ?_
        refine guardE_of ⟨by show (((ttsC args).drop ((i : Int).toNat * 4)).take 4).length = 4; rw [hld]; exact haC, by decide, by decide⟩ ?_
        iterate 1 refine opsStep ?_
        refine VCode.ent (Ent.fr' (l := [(0, wF), (2, .int .i64 d), (8, .ref 2 0 0), (16, .sl k args.length (ttsC args)), (17, .int .i64 args.length), (18, .int .i64 i)]) (H' := mH mi ++ [.cells 0 a.cells]) ⟨(by kernel_rfl), (by kernel_rfl), (by kernel_rfl), (by kernel_rfl), (by kernel_rfl), (by kernel_rfl), trivial⟩ (Eq.trans (b := mH mi ++ [.cells 0 (over [.int .i64 0, .int .i64 0, .str [], .sl .nil 0 []] 0 (((ttsC args).drop ((i : Int).toNat * 4)).take 4))]) (by kernel_rfl) (by rw [hld, over4 haC]))) ?_
        repeat first | refine opsStep ?_ | refine codeStep ?_ | refine drawStep ?_
        refine guardE_of (by show 0 + 4 ≤ a.cells.length; omega) ?_
        repeat first | refine opsStep ?_ | refine codeStep ?_ | refine drawStep ?_
        have hcl : (a.cells.drop 0).take 4 = a.cells := by rw [List.drop_zero, List.take_of_length_le (by omega)]
        have hrec' : ACall Tryd.prog 55 [wF, .agg ((a.cells.drop 0).take 4), .int .i64 (IntKind.wrap .i64 ((d : Int) + 1))] (mH mi) fun o H' => o = .ret (.bool (decide (wi.err = 0))) ∧ H' = mH wi := by rw [hcl]; exact hrec
        refine callT (args := [wF, .agg ((a.cells.drop 0).take 4), .int .i64 (IntKind.wrap .i64 ((d : Int) + 1))]) hrec' [.cells 0 a.cells] rfl rfl (by rw [hcl]; simp only [bels, AV.bel, wF]; exact ⟨⟨trivial, by show 1 < 2; decide, trivial⟩, haB, trivial, trivial⟩) (mH_bel mi) (mH_bel _) (by simp [AV.bel]) ?_
        repeat first | refine opsStep ?_ | refine codeStep ?_ | refine drawStep ?_
        refine decB_split (fun hb => ?_) (fun hb => ?_)
        · have hne : wi.err ≠ 0 := by simpa using hb
          rw [if_pos hne] at hstep
          repeat first | refine opsStep ?_ | refine codeStep ?_ | refine drawStep ?_
          refine finR (l := [(6, .bool false)]) (v := .bool false) (H₁ := mH wi ++ [.cells 0 a.cells]) ⟨(by kernel_rfl), trivial⟩ (by kernel_rfl) (Ent.frD (l := [(6, .bool false)]) ⟨(by kernel_rfl), trivial⟩ rfl (Nat.le_refl 2) (by simp [frBel, AV.bel]) (mH_bel _)) (by kernel_rfl) ⟨by rw [hstep, decide_eq_false hne], by rw [hstep]⟩
        · have hne : wi.err = 0 := by simpa using hb
          rw [if_neg (by simp [hne])] at hstep
          clear hb
          repeat first | refine opsStep ?_ | refine codeStep ?_ | refine drawStep ?_
          exact ⟨⟨(i + 1, wi), hi, hstep, hao' hne, hne⟩, (by show args.length - (i + 1) < args.length - i; omega), Ent.frD (X := [.cells 0 a.cells]) ⟨(by kernel_rfl), (by kernel_rfl), (by kernel_rfl), (by kernel_rfl), inc_slot (i := i) (by omega), trivial⟩ (by kernel_rfl) (Nat.le_refl 2) (by simp only [frBel, AV.bel, wF, bels]; exact ⟨⟨trivial, by show 1 < 2; decide, trivial⟩, trivial, closeds_bel _ (ttsC_closed _), trivial, trivial, trivial⟩) (mH_bel _)⟩
      · have hi : i = args.length := by have : ¬ (i : Int) < args.length := hlt; omega
        clear hlt
        subst hi
        rw [List.drop_length, ttsWalk] at h2
        subst h2
        repeat first | refine opsStep ?_ | refine codeStep ?_ | refine drawStep ?_
        exact finR (l := [(6, .bool true)]) (v := .bool true) (H₁ := mH w) ⟨(by kernel_rfl), trivial⟩ (by kernel_rfl) (Ent.refl _ _ _) (by kernel_rfl) ⟨by rw [decide_eq_true h4], rfl⟩

end Tab

/- Nodes of formulas that are well made. -/
namespace Tab
open Go Go.Proofs
set_option maxRecDepth 10000
set_option linter.unusedVariables false
set_option linter.unusedSimpArgs false
set_option linter.unusedSectionVars false
set_option maxHeartbeats 4000000

theorem tree_formula (f : FT) (hn : f.name.length < 2^62) : Pure Tryd.prog 102 [.agg f.cells] (.bool (goodF f)) := by
  rw [FT.cells_eq]
  rcases f with ⟨op, name, md, tk, terms, ak, args⟩
  simp only [FT.op, FT.name, FT.md, FT.tk, FT.terms, FT.ak, FT.args] at hn ⊢
  have hL0 : ((args.length : Int) = 0) ↔ args.length = 0 := by omega
  have hL1 : ((args.length : Int) = 1) ↔ args.length = 1 := by omega
  have hL2 : ((args.length : Int) = 2) ↔ args.length = 2 := by omega
  have hT0 : ((terms.length : Int) = 0) ↔ terms.length = 0 := by omega
  have hT2 : ((terms.length : Int) = 2) ↔ terms.length = 2 := by omega
  by_cases hr : 0 ≤ op ∧ op ≤ 15
  · rcases (by omega : op = 0 ∨ op = 1 ∨ op = 2 ∨ op = 3 ∨ op = 4 ∨ op = 5 ∨ op = 6 ∨ op = 7 ∨ op = 8 ∨ op = 9 ∨ op = 10 ∨ op = 11 ∨ op = 12 ∨ op = 13 ∨ op = 14 ∨ op = 15) with hop | hop | hop | hop | hop | hop | hop | hop | hop | hop | hop | hop | hop | hop | hop | hop
    · subst hop
      refine Pure.of_sw 132 Tryd.func102 rfl Tryd.ntmps102 (by kernel_rfl) (Nat.le_of_ble_eq_true (by kernel_rfl)) (by simp only [closeds]; exact ⟨fC5_closed 0 name md tk terms ak args, trivial⟩) (by simp only [AV.closed]) ?_
      refine SW.of_vc ?_
      repeat' first | refine opsStep ?_ | refine codeStep ?_ | refine decB_split (fun h => ?_) (fun h => ?_)
      all_goals
        refine SW.drawn rfl (by kernel_rfl) ?_
        repeat first | refine opsStep ?_ | refine codeStep ?_ | refine drawStep ?_
        refine ⟨by kernel_rfl, ?_⟩
        repeat' first | refine opsStep ?_ | refine codeStep ?_ | refine decB_split (fun h => ?_) (fun h => ?_)
      all_goals exact finB rfl (by first | (simp_all [goodF, FT.op, FT.name, FT.md, FT.terms, FT.args]; done) | (clear hr; simp only [goodF, FT.op, FT.name, FT.md, FT.terms, FT.args]; by_cases q1 : name = [] <;> by_cases q2 : md = 0 <;> by_cases q3 : 1 ≤ md <;> by_cases q4 : nameS name = true <;> by_cases q5 : terms = [] <;> by_cases q6 : args = [] <;> simp_all <;> first | rfl | omega | exact decide_eq_false (by omega) | (intro hh; exact absurd (of_decide_eq_true hh) (by omega))))
    · subst hop
      refine Pure.of_sw 132 Tryd.func102 rfl Tryd.ntmps102 (by kernel_rfl) (Nat.le_of_ble_eq_true (by kernel_rfl)) (by simp only [closeds]; exact ⟨fC5_closed 1 name md tk terms ak args, trivial⟩) (by simp only [AV.closed]) ?_
      refine SW.of_vc ?_
      repeat' first | refine opsStep ?_ | refine codeStep ?_ | refine decB_split (fun h => ?_) (fun h => ?_)
      all_goals
        refine SW.drawn rfl (by kernel_rfl) ?_
        repeat first | refine opsStep ?_ | refine codeStep ?_ | refine drawStep ?_
        refine ⟨by kernel_rfl, ?_⟩
        repeat' first | refine opsStep ?_ | refine codeStep ?_ | refine decB_split (fun h => ?_) (fun h => ?_)
      all_goals exact finB rfl (by first | (simp_all [goodF, FT.op, FT.name, FT.md, FT.terms, FT.args]; done) | (clear hr; simp only [goodF, FT.op, FT.name, FT.md, FT.terms, FT.args]; by_cases q1 : name = [] <;> by_cases q2 : md = 0 <;> by_cases q3 : 1 ≤ md <;> by_cases q4 : nameS name = true <;> by_cases q5 : terms = [] <;> by_cases q6 : args = [] <;> simp_all <;> first | rfl | omega | exact decide_eq_false (by omega) | (intro hh; exact absurd (of_decide_eq_true hh) (by omega))))
    · subst hop
      refine Pure.of_sw 132 Tryd.func102 rfl Tryd.ntmps102 (by kernel_rfl) (Nat.le_of_ble_eq_true (by kernel_rfl)) (by simp only [closeds]; exact ⟨fC5_closed 2 name md tk terms ak args, trivial⟩) (by simp only [AV.closed]) ?_
      refine SW.of_vc ?_
      repeat' first | refine opsStep ?_ | refine codeStep ?_ | refine decB_split (fun h => ?_) (fun h => ?_)
      all_goals
        refine SW.drawn rfl (by kernel_rfl) ?_
        repeat first | refine opsStep ?_ | refine codeStep ?_ | refine drawStep ?_
        refine ⟨by kernel_rfl, ?_⟩
        repeat' first | refine opsStep ?_ | refine codeStep ?_ | refine decB_split (fun h => ?_) (fun h => ?_)
      all_goals exact finB rfl (by first | (simp_all [goodF, FT.op, FT.name, FT.md, FT.terms, FT.args]; done) | (clear hr; simp only [goodF, FT.op, FT.name, FT.md, FT.terms, FT.args]; by_cases q1 : name = [] <;> by_cases q2 : md = 0 <;> by_cases q3 : 1 ≤ md <;> by_cases q4 : nameS name = true <;> by_cases q5 : terms = [] <;> by_cases q6 : args = [] <;> simp_all <;> first | rfl | omega | exact decide_eq_false (by omega) | (intro hh; exact absurd (of_decide_eq_true hh) (by omega))))
    · subst hop
      refine Pure.of_sw 132 Tryd.func102 rfl Tryd.ntmps102 (by kernel_rfl) (Nat.le_of_ble_eq_true (by kernel_rfl)) (by simp only [closeds]; exact ⟨fC5_closed 3 name md tk terms ak args, trivial⟩) (by simp only [AV.closed]) ?_
      refine SW.of_vc ?_
      repeat' first | refine opsStep ?_ | refine codeStep ?_ | refine decB_split (fun h => ?_) (fun h => ?_)
      all_goals
        refine SW.drawn rfl (by kernel_rfl) ?_
        repeat first | refine opsStep ?_ | refine codeStep ?_ | refine drawStep ?_
        refine ⟨by kernel_rfl, ?_⟩
        repeat' first | refine opsStep ?_ | refine codeStep ?_ | refine decB_split (fun h => ?_) (fun h => ?_)
      all_goals exact finB rfl (by first | (simp_all [goodF, FT.op, FT.name, FT.md, FT.terms, FT.args]; done) | (clear hr; simp only [goodF, FT.op, FT.name, FT.md, FT.terms, FT.args]; by_cases q1 : name = [] <;> by_cases q2 : md = 0 <;> by_cases q3 : 1 ≤ md <;> by_cases q4 : nameS name = true <;> by_cases q5 : terms = [] <;> by_cases q6 : args = [] <;> simp_all <;> first | rfl | omega | exact decide_eq_false (by omega) | (intro hh; exact absurd (of_decide_eq_true hh) (by omega))))
    · subst hop
      refine Pure.of_sw 132 Tryd.func102 rfl Tryd.ntmps102 (by kernel_rfl) (Nat.le_of_ble_eq_true (by kernel_rfl)) (by simp only [closeds]; exact ⟨fC5_closed 4 name md tk terms ak args, trivial⟩) (by simp only [AV.closed]) ?_
      refine SW.of_vc ?_
      repeat' first | refine opsStep ?_ | refine codeStep ?_ | refine decB_split (fun h => ?_) (fun h => ?_)
      all_goals
        refine SW.drawn rfl (by kernel_rfl) ?_
        repeat first | refine opsStep ?_ | refine codeStep ?_ | refine drawStep ?_
        refine ⟨by kernel_rfl, ?_⟩
        repeat' first | refine opsStep ?_ | refine codeStep ?_ | refine decB_split (fun h => ?_) (fun h => ?_)
      all_goals exact finB rfl (by first | (simp_all [goodF, FT.op, FT.name, FT.md, FT.terms, FT.args]; done) | (clear hr; simp only [goodF, FT.op, FT.name, FT.md, FT.terms, FT.args]; by_cases q1 : name = [] <;> by_cases q2 : md = 0 <;> by_cases q3 : 1 ≤ md <;> by_cases q4 : nameS name = true <;> by_cases q5 : terms = [] <;> by_cases q6 : args = [] <;> simp_all <;> first | rfl | omega | exact decide_eq_false (by omega) | (intro hh; exact absurd (of_decide_eq_true hh) (by omega))))
    · subst hop
      refine Pure.of_sw 132 Tryd.func102 rfl Tryd.ntmps102 (by kernel_rfl) (Nat.le_of_ble_eq_true (by kernel_rfl)) (by simp only [closeds]; exact ⟨fC5_closed 5 name md tk terms ak args, trivial⟩) (by simp only [AV.closed]) ?_
      refine SW.of_vc ?_
      repeat' first | refine opsStep ?_ | refine codeStep ?_ | refine decB_split (fun h => ?_) (fun h => ?_)
      all_goals
        refine SW.drawn rfl (by kernel_rfl) ?_
        repeat first | refine opsStep ?_ | refine codeStep ?_ | refine drawStep ?_
        refine ⟨by kernel_rfl, ?_⟩
        repeat' first | refine opsStep ?_ | refine codeStep ?_ | refine decB_split (fun h => ?_) (fun h => ?_)
      all_goals exact finB rfl (by first | (simp_all [goodF, FT.op, FT.name, FT.md, FT.terms, FT.args]; done) | (clear hr; simp only [goodF, FT.op, FT.name, FT.md, FT.terms, FT.args]; by_cases q1 : name = [] <;> by_cases q2 : md = 0 <;> by_cases q3 : 1 ≤ md <;> by_cases q4 : nameS name = true <;> by_cases q5 : terms = [] <;> by_cases q6 : args = [] <;> simp_all <;> first | rfl | omega | exact decide_eq_false (by omega) | (intro hh; exact absurd (of_decide_eq_true hh) (by omega))))
    · subst hop
      refine Pure.of_sw 132 Tryd.func102 rfl Tryd.ntmps102 (by kernel_rfl) (Nat.le_of_ble_eq_true (by kernel_rfl)) (by simp only [closeds]; exact ⟨fC5_closed 6 name md tk terms ak args, trivial⟩) (by simp only [AV.closed]) ?_
      refine SW.of_vc ?_
      repeat' first | refine opsStep ?_ | refine codeStep ?_ | refine decB_split (fun h => ?_) (fun h => ?_)
      all_goals
        refine SW.drawn rfl (by kernel_rfl) ?_
        repeat first | refine opsStep ?_ | refine codeStep ?_ | refine drawStep ?_
        refine ⟨by kernel_rfl, ?_⟩
        repeat' first | refine opsStep ?_ | refine codeStep ?_ | refine decB_split (fun h => ?_) (fun h => ?_)
      all_goals exact finB rfl (by first | (simp_all [goodF, FT.op, FT.name, FT.md, FT.terms, FT.args]; done) | (clear hr; simp only [goodF, FT.op, FT.name, FT.md, FT.terms, FT.args]; by_cases q1 : name = [] <;> by_cases q2 : md = 0 <;> by_cases q3 : 1 ≤ md <;> by_cases q4 : nameS name = true <;> by_cases q5 : terms = [] <;> by_cases q6 : args = [] <;> simp_all <;> first | rfl | omega | exact decide_eq_false (by omega) | (intro hh; exact absurd (of_decide_eq_true hh) (by omega))))
    · subst hop
      refine Pure.of_sw 132 Tryd.func102 rfl Tryd.ntmps102 (by kernel_rfl) (Nat.le_of_ble_eq_true (by kernel_rfl)) (by simp only [closeds]; exact ⟨fC5_closed 7 name md tk terms ak args, trivial⟩) (by simp only [AV.closed]) ?_
      refine SW.of_vc ?_
      repeat' first | refine opsStep ?_ | refine codeStep ?_ | refine decB_split (fun h => ?_) (fun h => ?_)
      all_goals
        refine SW.drawn rfl (by kernel_rfl) ?_
        repeat first | refine opsStep ?_ | refine codeStep ?_ | refine drawStep ?_
        refine ⟨by kernel_rfl, ?_⟩
        repeat first | refine opsStep ?_ | refine codeStep ?_ | refine drawStep ?_
        refine callP (glyph_Name name hn) ?_
        repeat' first | refine opsStep ?_ | refine codeStep ?_ | refine decB_split (fun h => ?_) (fun h => ?_)
      all_goals exact finB rfl (by first | (simp_all [goodF, FT.op, FT.name, FT.md, FT.terms, FT.args]; done) | (clear hr; simp only [goodF, FT.op, FT.name, FT.md, FT.terms, FT.args]; by_cases q1 : name = [] <;> by_cases q2 : md = 0 <;> by_cases q3 : 1 ≤ md <;> by_cases q4 : nameS name = true <;> by_cases q5 : terms = [] <;> by_cases q6 : args = [] <;> simp_all <;> first | rfl | omega | exact decide_eq_false (by omega) | (intro hh; exact absurd (of_decide_eq_true hh) (by omega))))
    · subst hop
      refine Pure.of_sw 132 Tryd.func102 rfl Tryd.ntmps102 (by kernel_rfl) (Nat.le_of_ble_eq_true (by kernel_rfl)) (by simp only [closeds]; exact ⟨fC5_closed 8 name md tk terms ak args, trivial⟩) (by simp only [AV.closed]) ?_
      refine SW.of_vc ?_
      repeat' first | refine opsStep ?_ | refine codeStep ?_ | refine decB_split (fun h => ?_) (fun h => ?_)
      all_goals
        refine SW.drawn rfl (by kernel_rfl) ?_
        repeat first | refine opsStep ?_ | refine codeStep ?_ | refine drawStep ?_
        refine ⟨by kernel_rfl, ?_⟩
        repeat first | refine opsStep ?_ | refine codeStep ?_ | refine drawStep ?_
        refine callP (glyph_Name name hn) ?_
        repeat' first | refine opsStep ?_ | refine codeStep ?_ | refine decB_split (fun h => ?_) (fun h => ?_)
      all_goals exact finB rfl (by first | (simp_all [goodF, FT.op, FT.name, FT.md, FT.terms, FT.args]; done) | (clear hr; simp only [goodF, FT.op, FT.name, FT.md, FT.terms, FT.args]; by_cases q1 : name = [] <;> by_cases q2 : md = 0 <;> by_cases q3 : 1 ≤ md <;> by_cases q4 : nameS name = true <;> by_cases q5 : terms = [] <;> by_cases q6 : args = [] <;> simp_all <;> first | rfl | omega | exact decide_eq_false (by omega) | (intro hh; exact absurd (of_decide_eq_true hh) (by omega))))
    · subst hop
      refine Pure.of_sw 132 Tryd.func102 rfl Tryd.ntmps102 (by kernel_rfl) (Nat.le_of_ble_eq_true (by kernel_rfl)) (by simp only [closeds]; exact ⟨fC5_closed 9 name md tk terms ak args, trivial⟩) (by simp only [AV.closed]) ?_
      refine SW.of_vc ?_
      repeat' first | refine opsStep ?_ | refine codeStep ?_ | refine decB_split (fun h => ?_) (fun h => ?_)
      all_goals
        refine SW.drawn rfl (by kernel_rfl) ?_
        repeat first | refine opsStep ?_ | refine codeStep ?_ | refine drawStep ?_
        refine ⟨by kernel_rfl, ?_⟩
        repeat' first | refine opsStep ?_ | refine codeStep ?_ | refine decB_split (fun h => ?_) (fun h => ?_)
      all_goals exact finB rfl (by first | (simp_all [goodF, FT.op, FT.name, FT.md, FT.terms, FT.args]; done) | (clear hr; simp only [goodF, FT.op, FT.name, FT.md, FT.terms, FT.args]; by_cases q1 : name = [] <;> by_cases q2 : md = 0 <;> by_cases q3 : 1 ≤ md <;> by_cases q4 : nameS name = true <;> by_cases q5 : terms = [] <;> by_cases q6 : args = [] <;> simp_all <;> first | rfl | omega | exact decide_eq_false (by omega) | (intro hh; exact absurd (of_decide_eq_true hh) (by omega))))
    · subst hop
      refine Pure.of_sw 132 Tryd.func102 rfl Tryd.ntmps102 (by kernel_rfl) (Nat.le_of_ble_eq_true (by kernel_rfl)) (by simp only [closeds]; exact ⟨fC5_closed 10 name md tk terms ak args, trivial⟩) (by simp only [AV.closed]) ?_
      refine SW.of_vc ?_
      repeat' first | refine opsStep ?_ | refine codeStep ?_ | refine decB_split (fun h => ?_) (fun h => ?_)
      all_goals
        refine SW.drawn rfl (by kernel_rfl) ?_
        repeat first | refine opsStep ?_ | refine codeStep ?_ | refine drawStep ?_
        refine ⟨by kernel_rfl, ?_⟩
        repeat' first | refine opsStep ?_ | refine codeStep ?_ | refine decB_split (fun h => ?_) (fun h => ?_)
      all_goals exact finB rfl (by first | (simp_all [goodF, FT.op, FT.name, FT.md, FT.terms, FT.args]; done) | (clear hr; simp only [goodF, FT.op, FT.name, FT.md, FT.terms, FT.args]; by_cases q1 : name = [] <;> by_cases q2 : md = 0 <;> by_cases q3 : 1 ≤ md <;> by_cases q4 : nameS name = true <;> by_cases q5 : terms = [] <;> by_cases q6 : args = [] <;> simp_all <;> first | rfl | omega | exact decide_eq_false (by omega) | (intro hh; exact absurd (of_decide_eq_true hh) (by omega))))
    · subst hop
      refine Pure.of_sw 132 Tryd.func102 rfl Tryd.ntmps102 (by kernel_rfl) (Nat.le_of_ble_eq_true (by kernel_rfl)) (by simp only [closeds]; exact ⟨fC5_closed 11 name md tk terms ak args, trivial⟩) (by simp only [AV.closed]) ?_
      refine SW.of_vc ?_
      repeat' first | refine opsStep ?_ | refine codeStep ?_ | refine decB_split (fun h => ?_) (fun h => ?_)
      all_goals
        refine SW.drawn rfl (by kernel_rfl) ?_
        repeat first | refine opsStep ?_ | refine codeStep ?_ | refine drawStep ?_
        refine ⟨by kernel_rfl, ?_⟩
        repeat' first | refine opsStep ?_ | refine codeStep ?_ | refine decB_split (fun h => ?_) (fun h => ?_)
      all_goals exact finB rfl (by first | (simp_all [goodF, FT.op, FT.name, FT.md, FT.terms, FT.args]; done) | (clear hr; simp only [goodF, FT.op, FT.name, FT.md, FT.terms, FT.args]; by_cases q1 : name = [] <;> by_cases q2 : md = 0 <;> by_cases q3 : 1 ≤ md <;> by_cases q4 : nameS name = true <;> by_cases q5 : terms = [] <;> by_cases q6 : args = [] <;> simp_all <;> first | rfl | omega | exact decide_eq_false (by omega) | (intro hh; exact absurd (of_decide_eq_true hh) (by omega))))
    · subst hop
      refine Pure.of_sw 132 Tryd.func102 rfl Tryd.ntmps102 (by kernel_rfl) (Nat.le_of_ble_eq_true (by kernel_rfl)) (by simp only [closeds]; exact ⟨fC5_closed 12 name md tk terms ak args, trivial⟩) (by simp only [AV.closed]) ?_
      refine SW.of_vc ?_
      repeat' first | refine opsStep ?_ | refine codeStep ?_ | refine decB_split (fun h => ?_) (fun h => ?_)
      all_goals
        refine SW.drawn rfl (by kernel_rfl) ?_
        repeat first | refine opsStep ?_ | refine codeStep ?_ | refine drawStep ?_
        refine ⟨by kernel_rfl, ?_⟩
        repeat' first | refine opsStep ?_ | refine codeStep ?_ | refine decB_split (fun h => ?_) (fun h => ?_)
      all_goals exact finB rfl (by first | (simp_all [goodF, FT.op, FT.name, FT.md, FT.terms, FT.args]; done) | (clear hr; simp only [goodF, FT.op, FT.name, FT.md, FT.terms, FT.args]; by_cases q1 : name = [] <;> by_cases q2 : md = 0 <;> by_cases q3 : 1 ≤ md <;> by_cases q4 : nameS name = true <;> by_cases q5 : terms = [] <;> by_cases q6 : args = [] <;> simp_all <;> first | rfl | omega | exact decide_eq_false (by omega) | (intro hh; exact absurd (of_decide_eq_true hh) (by omega))))
    · subst hop
      refine Pure.of_sw 132 Tryd.func102 rfl Tryd.ntmps102 (by kernel_rfl) (Nat.le_of_ble_eq_true (by kernel_rfl)) (by simp only [closeds]; exact ⟨fC5_closed 13 name md tk terms ak args, trivial⟩) (by simp only [AV.closed]) ?_
      refine SW.of_vc ?_
      repeat' first | refine opsStep ?_ | refine codeStep ?_ | refine decB_split (fun h => ?_) (fun h => ?_)
      all_goals
        refine SW.drawn rfl (by kernel_rfl) ?_
        repeat first | refine opsStep ?_ | refine codeStep ?_ | refine drawStep ?_
        refine ⟨by kernel_rfl, ?_⟩
        repeat' first | refine opsStep ?_ | refine codeStep ?_ | refine decB_split (fun h => ?_) (fun h => ?_)
      all_goals exact finB rfl (by first | (simp_all [goodF, FT.op, FT.name, FT.md, FT.terms, FT.args]; done) | (clear hr; simp only [goodF, FT.op, FT.name, FT.md, FT.terms, FT.args]; by_cases q1 : name = [] <;> by_cases q2 : md = 0 <;> by_cases q3 : 1 ≤ md <;> by_cases q4 : nameS name = true <;> by_cases q5 : terms = [] <;> by_cases q6 : args = [] <;> simp_all <;> first | rfl | omega | exact decide_eq_false (by omega) | (intro hh; exact absurd (of_decide_eq_true hh) (by omega))))
    · subst hop
      refine Pure.of_sw 132 Tryd.func102 rfl Tryd.ntmps102 (by kernel_rfl) (Nat.le_of_ble_eq_true (by kernel_rfl)) (by simp only [closeds]; exact ⟨fC5_closed 14 name md tk terms ak args, trivial⟩) (by simp only [AV.closed]) ?_
      refine SW.of_vc ?_
      repeat' first | refine opsStep ?_ | refine codeStep ?_ | refine decB_split (fun h => ?_) (fun h => ?_)
      all_goals
        refine SW.drawn rfl (by kernel_rfl) ?_
        repeat first | refine opsStep ?_ | refine codeStep ?_ | refine drawStep ?_
        refine ⟨by kernel_rfl, ?_⟩
        repeat' first | refine opsStep ?_ | refine codeStep ?_ | refine decB_split (fun h => ?_) (fun h => ?_)
      all_goals exact finB rfl (by first | (simp_all [goodF, FT.op, FT.name, FT.md, FT.terms, FT.args]; done) | (clear hr; simp only [goodF, FT.op, FT.name, FT.md, FT.terms, FT.args]; by_cases q1 : name = [] <;> by_cases q2 : md = 0 <;> by_cases q3 : 1 ≤ md <;> by_cases q4 : nameS name = true <;> by_cases q5 : terms = [] <;> by_cases q6 : args = [] <;> simp_all <;> first | rfl | omega | exact decide_eq_false (by omega) | (intro hh; exact absurd (of_decide_eq_true hh) (by omega))))
    · subst hop
      refine Pure.of_sw 132 Tryd.func102 rfl Tryd.ntmps102 (by kernel_rfl) (Nat.le_of_ble_eq_true (by kernel_rfl)) (by simp only [closeds]; exact ⟨fC5_closed 15 name md tk terms ak args, trivial⟩) (by simp only [AV.closed]) ?_
      refine SW.of_vc ?_
      repeat' first | refine opsStep ?_ | refine codeStep ?_ | refine decB_split (fun h => ?_) (fun h => ?_)
      all_goals
        refine SW.drawn rfl (by kernel_rfl) ?_
        repeat first | refine opsStep ?_ | refine codeStep ?_ | refine drawStep ?_
        refine ⟨by kernel_rfl, ?_⟩
        repeat' first | refine opsStep ?_ | refine codeStep ?_ | refine decB_split (fun h => ?_) (fun h => ?_)
      all_goals exact finB rfl (by first | (simp_all [goodF, FT.op, FT.name, FT.md, FT.terms, FT.args]; done) | (clear hr; simp only [goodF, FT.op, FT.name, FT.md, FT.terms, FT.args]; by_cases q1 : name = [] <;> by_cases q2 : md = 0 <;> by_cases q3 : 1 ≤ md <;> by_cases q4 : nameS name = true <;> by_cases q5 : terms = [] <;> by_cases q6 : args = [] <;> simp_all <;> first | rfl | omega | exact decide_eq_false (by omega) | (intro hh; exact absurd (of_decide_eq_true hh) (by omega))))
  · skip
    have hg : goodF ⟨op, name, md, tk, terms, ak, args⟩ = false := by
      show (if op = 0 ∨ op = 1 then decide (name = []) && decide (md = 0) && decide (terms.length = 0) && decide (args.length = 0)
        else if op = 2 then decide (name = []) && decide (md = 0) && decide (terms.length = 0) && decide (args.length = 1)
        else if 3 ≤ op ∧ op ≤ 6 then decide (name = []) && decide (md = 0) && decide (terms.length = 0) && decide (args.length = 2)
        else if op = 7 ∨ op = 8 then nameS name && decide (md = 0) && decide (terms.length = 0) && decide (args.length = 1)
        else if 9 ≤ op ∧ op ≤ 14 then decide (name = []) && decide (md = 0) && decide (terms.length = 2) && decide (args.length = 0)
        else if op = 15 then decide (name = []) && decide (1 ≤ md) && decide (terms.length = 2) && decide (args.length = 0)
        else false) = false
      rw [if_neg (by omega), if_neg (by omega), if_neg (by omega), if_neg (by omega), if_neg (by omega), if_neg (by omega)]
    rw [hg]
    refine Pure.of_sw 132 Tryd.func102 rfl Tryd.ntmps102 (by kernel_rfl) (Nat.le_of_ble_eq_true (by kernel_rfl)) (by simp only [closeds]; exact ⟨fC5_closed op name md tk terms ak args, trivial⟩) (by simp only [AV.closed]) ?_
    refine SW.of_vc ?_
    repeat' first | refine opsStep ?_ | refine codeStep ?_ | refine decB_split (fun h => ?_) (fun h => ?_)
    all_goals
      refine SW.drawn rfl (by kernel_rfl) ?_
      repeat first | refine opsStep ?_ | refine codeStep ?_ | refine drawStep ?_
      refine ⟨by kernel_rfl, ?_⟩
      repeat' first | refine opsStep ?_ | refine codeStep ?_ | refine decB_split (fun h => ?_) (fun h => ?_)
    all_goals first
      | exact finB (b' := false) rfl rfl
      | (exfalso; simp_all <;> omega)

end Tab

/- The walk over a formula. -/
namespace Tab
open Go Go.Proofs
set_option maxRecDepth 10000
set_option linter.unusedVariables false
set_option linter.unusedSimpArgs false
set_option linter.unusedSectionVars false
set_option maxHeartbeats 1000000

mutual
theorem FT.walk_dep : ∀ (t : FT) (d : Nat) (m : Ms), (t.walk d m).err = 0 → m.depth ≤ 100 → (t.walk d m).depth ≤ 100
  | .mk op name md tk terms ak args, d, m, h, hm => by
    rw [FT.walk] at h ⊢
    by_cases hn : (nodeM m d (goodF (.mk op name md tk terms ak args))).err ≠ 0
    · rw [if_pos hn] at h; exact absurd h hn
    · rw [if_neg hn] at h ⊢
      obtain ⟨_, _, n3, _, _⟩ := nodeM_ok (Decidable.of_not_not hn)
      by_cases ht : (ttsWalk terms (d + 1) (nodeM m d (goodF (.mk op name md tk terms ak args)))).err ≠ 0
      · rw [if_pos ht] at h; exact absurd h ht
      · rw [if_neg ht] at h ⊢
        exact ftsWalk_dep args _ _ h (ttsWalk_dep terms _ _ (Decidable.of_not_not ht) (by simp only [nodeM]; omega))
theorem ftsWalk_dep : ∀ (l : List FT) (d : Nat) (m : Ms), (ftsWalk l d m).err = 0 → m.depth ≤ 100 → (ftsWalk l d m).depth ≤ 100
  | [], d, m, h, hm => by simpa [ftsWalk] using hm
  | t :: l, d, m, h, hm => by
    rw [ftsWalk] at h ⊢
    by_cases hn : (t.walk d m).err ≠ 0
    · rw [if_pos hn] at h; exact absurd h hn
    · rw [if_neg hn] at h ⊢
      exact ftsWalk_dep l d _ h (FT.walk_dep t d m (Decidable.of_not_not hn) hm)
end
theorem FT.walk_ok {t : FT} {d : Nat} {m : Ms} (h : MsOk m d) (he : (t.walk d m).err = 0) : MsOk (t.walk d m) d :=
  ⟨(FT.walk_right t d m he).2.2, FT.walk_dep t d m he h.dep, h.d⟩
theorem fts_nodes : ∀ {l : List FT} {i : Nat} (h : i < l.length), (l[i]'h).nodes ≤ ftsNodes l
  | t :: l, 0, h => by rw [ftsNodes]; show t.nodes ≤ _; omega
  | t :: l, i + 1, h => by rw [ftsNodes]; have := fts_nodes (l := l) (i := i) (by simpa using h); show (l[i]'_).nodes ≤ _; omega
theorem ftsWalk_drop {l : List FT} {i : Nat} (h : i < l.length) (d : Nat) (m : Ms) : ftsWalk (l.drop i) d m = if ((l[i]'h).walk d m).err ≠ 0 then (l[i]'h).walk d m else ftsWalk (l.drop (i + 1)) d ((l[i]'h).walk d m) := by
  rw [List.drop_eq_getElem_cons h, ftsWalk]
theorem over5 {l : List AV} (h : l.length = 5) (a b c d e : AV) : over [a, b, c, d, e] 0 l = l := by
  rw [over, h]; simp

theorem walk_formula : ∀ (n : Nat) (f : FT), f.nodes ≤ n → f.ok → ∀ (m : Ms) (d : Nat), MsOk m d → m.err = 0 → ACall Tryd.prog 73 [wF, .agg f.cells, .int .i64 d] (mH m) fun o H' => o = .ret (.bool (decide ((f.walk d m).err = 0))) ∧ H' = mH (f.walk d m) := by
  intro n
  induction n with
  | zero => intro t h; rcases t with ⟨op, name, md, tk, terms, ak, args⟩; rw [FT.nodes] at h; omega
  | succ n ih =>
    intro f hnodes hok m d hm he
    have hgood := tree_formula f (by cases f; rw [FT.ok] at hok; have := hok.2.1; show List.length _ < _; simp only [FT.name]; omega)
    rw [FT.cells_eq] at hgood ⊢
    rcases f with ⟨op, name, md, tk, terms, ak, args⟩
    have hwk : FT.walk ⟨op, name, md, tk, terms, ak, args⟩ d m = if (nodeM m d (goodF ⟨op, name, md, tk, terms, ak, args⟩)).err ≠ 0 then nodeM m d (goodF ⟨op, name, md, tk, terms, ak, args⟩) else if (ttsWalk terms (d + 1) (nodeM m d (goodF ⟨op, name, md, tk, terms, ak, args⟩))).err ≠ 0 then ttsWalk terms (d + 1) (nodeM m d (goodF ⟨op, name, md, tk, terms, ak, args⟩)) else ftsWalk args (d + 1) (ttsWalk terms (d + 1) (nodeM m d (goodF ⟨op, name, md, tk, terms, ak, args⟩))) := by rw [FT.walk]
    rw [FT.ok] at hok
    rw [FT.nodes] at hnodes
    generalize goodF ⟨op, name, md, tk, terms, ak, args⟩ = g at *
    generalize FT.walk ⟨op, name, md, tk, terms, ak, args⟩ d m = w at *
    simp only [FT.op, FT.name, FT.md, FT.tk, FT.terms, FT.ak, FT.args] at hgood ⊢
    have htl := hok.2.2.2.1
    have hto := hok.2.2.2.2.1
    have hal := hok.2.2.2.2.2.1
    have hao := hok.2.2.2.2.2.2
    have hd := hm.d
    have hdi : IntKind.wrap .i64 ((d : Int) + 1) = ((d + 1 : Nat) : Int) := by rw [IntWalk.i64_in _ (by omega)]; simp
    have hFB : bels 3 (fC5 op name md tk terms ak args) := by simp only [bels, AV.bel]; exact ⟨trivial, trivial, trivial, closeds_bel _ (ttsC_closed _), closeds_bel _ (ftsC_closed _), trivial⟩
    refine ACall.of_sw 45 Tryd.func73 rfl Tryd.ntmps73 (by kernel_rfl) (Nat.le_of_ble_eq_true (by kernel_rfl)) ?_; refine SW.of_vc ?_
    repeat first | refine opsStep ?_ | refine codeStep ?_ | refine drawStep ?_
    refine callP hgood ?_
    repeat first | refine opsStep ?_ | refine codeStep ?_ | refine drawStep ?_
    refine callT (args := [.int .i64 d, .bool g, .ref 1 0 0]) (met1 m d g hm he) [.cells 0 (fC5 op name md tk terms ak args)] rfl rfl (by simp [bels, AV.bel]) (mH_bel m) (mH_bel _) (by simp [AV.bel]) ?_
    repeat first | refine opsStep ?_ | refine codeStep ?_ | refine drawStep ?_
    refine decB_split (fun h => ?_) (fun h => ?_)
    · have hne : (nodeM m d g).err ≠ 0 := by simpa using h
      rw [if_pos hne] at hwk
      repeat first | refine opsStep ?_ | refine codeStep ?_ | refine drawStep ?_
      refine finR (l := [(6, .bool false)]) (v := .bool false) (H₁ := mH (nodeM m d g) ++ [.cells 0 (fC5 op name md tk terms ak args)]) ⟨(by kernel_rfl), trivial⟩ (by kernel_rfl) (Ent.frD (l := [(6, .bool false)]) ⟨(by kernel_rfl), trivial⟩ rfl (Nat.le_refl 2) (by simp [frBel, AV.bel]) (mH_bel _)) (by kernel_rfl) ⟨by rw [hwk, decide_eq_false hne], by rw [hwk]⟩
    · have hne : (nodeM m d g).err = 0 := by simpa using h
      rw [if_neg (by simp [hne])] at hwk
      have hm1 := nodeM_bd hm hne
      clear h
      repeat first | refine opsStep ?_ | refine codeStep ?_ | refine drawStep ?_
      refine loopE_of (ι := {x : Nat × Ms // x.1 ≤ terms.length ∧ ttsWalk terms (d + 1) (nodeM m d g) = ttsWalk (terms.drop x.1) (d + 1) x.2 ∧ MsOk x.2 (d + 1) ∧ x.2.err = 0}) (fun x => (fr [(0, wF), (2, .int .i64 d), (4, .ref 2 0 0), (18, .sl tk terms.length (ttsC terms)), (19, .int .i64 terms.length), (20, .int .i64 x.1.1)], mH x.1.2 ++ [.cells 0 (fC5 op name md tk terms ak args)])) (fun x => terms.length - x.1.1)
        ⟨(0, nodeM m d g), Nat.zero_le _, rfl, hm1, hne⟩ (Ent.fr' ⟨(by kernel_rfl), (by kernel_rfl), (by kernel_rfl), (by kernel_rfl), (by kernel_rfl), (by kernel_rfl), trivial⟩ (by kernel_rfl)) ?_
      rintro ⟨⟨i, mi⟩, h1, h2, h3, h4⟩
      simp only at h1 h2 h3 h4
      repeat first | refine opsStep ?_ | refine codeStep ?_ | refine drawStep ?_
      refine decB_dec (fun hlt => ?_) (fun hlt => ?_)
      · have hi : i < terms.length := by have : (i : Int) < terms.length := hlt; omega
        clear hlt
        have hld : ((ttsC terms).drop ((i : Int).toNat * 4)).take 4 = (terms[i]'hi).cells := by rw [Int.toNat_natCast]; exact ttsC_at hi
        have hfit : 4 ≤ ((ttsC terms).drop ((i : Int).toNat * 4)).length := by rw [List.length_drop, ttsC_len, Int.toNat_natCast]; omega
        have hrec := walk_term _ (terms[i]'hi) (Nat.le_refl _) (ttsOk_iff.1 hto _ (List.getElem_mem hi)) mi (d + 1) h3 h4
        have hstep := ttsWalk_drop hi (d + 1) mi
        rw [← h2] at hstep
        have hao' := @TT.walk_ok (terms[i]'hi) (d + 1) mi h3
        have haC := TT.cells_len (terms[i]'hi)
        have haB : bels 2 (terms[i]'hi).cells := closeds_bel _ (TT.cells_closed (terms[i]'hi))
        rw [← hdi] at hrec
        generalize terms[i]'hi = a at *
        generalize TT.walk a (d + 1) mi = wi at *
        repeat first | refine opsStep ?_ | refine codeStep ?_ | refine drawStep ?_
        refine guardE_of ⟨by omega, by show (i : Int) < terms.length; omega⟩ ?_
        repeat first | refine opsStep ?_ | refine codeStep ?_ | refine drawStep ?_
        refine guardE_of hfit ?_
        repeat first | refine opsStep ?_ | refine codeStep ?_ | refine drawStep ?_
        refine guardE_of ⟨by show (((ttsC terms).drop ((i : Int).toNat * 4)).take 4).length = 4; rw [hld]; exact haC, by decide, by decide⟩ ?_
        iterate 1 refine opsStep ?_
        refine VCode.ent (Ent.fr' (l := [(0, wF), (2, .int .i64 d), (4, .ref 2 0 0), (8, .ref 3 0 0), (18, .sl tk terms.length (ttsC terms)), (19, .int .i64 terms.length), (20, .int .i64 i)]) (H' := mH mi ++ [.cells 0 (fC5 op name md tk terms ak args), .cells 0 a.cells]) ⟨(by kernel_rfl), (by kernel_rfl), (by kernel_rfl), (by kernel_rfl), (by kernel_rfl), (by kernel_rfl), (by kernel_rfl), trivial⟩ (Eq.trans (b := mH mi ++ [.cells 0 (fC5 op name md tk terms ak args), .cells 0 (over [.int .i64 0, .int .i64 0, .str [], .sl .nil 0 []] 0 (((ttsC terms).drop ((i : Int).toNat * 4)).take 4))]) (by kernel_rfl) (by rw [hld, over4 haC]))) ?_
        repeat first | refine opsStep ?_ | refine codeStep ?_ | refine drawStep ?_
        refine guardE_of (by show 0 + 4 ≤ a.cells.length; omega) ?_
        repeat first | refine opsStep ?_ | refine codeStep ?_ | refine drawStep ?_
        have hcl : (a.cells.drop 0).take 4 = a.cells := by rw [List.drop_zero, List.take_of_length_le (by omega)]
        have hrec' : ACall Tryd.prog 55 [wF, .agg ((a.cells.drop 0).take 4), .int .i64 (IntKind.wrap .i64 ((d : Int) + 1))] (mH mi) fun o H' => o = .ret (.bool (decide (wi.err = 0))) ∧ H' = mH wi := by rw [hcl]; exact hrec
        refine callT (args := [wF, .agg ((a.cells.drop 0).take 4), .int .i64 (IntKind.wrap .i64 ((d : Int) + 1))]) hrec' [.cells 0 (fC5 op name md tk terms ak args), .cells 0 a.cells] rfl rfl (by rw [hcl]; simp only [bels, AV.bel, wF]; exact ⟨⟨trivial, by show 1 < 2; decide, trivial⟩, haB, trivial, trivial⟩) (mH_bel mi) (mH_bel _) (by simp [AV.bel]) ?_
        repeat first | refine opsStep ?_ | refine codeStep ?_ | refine drawStep ?_
        refine decB_split (fun hb => ?_) (fun hb => ?_)
        · have hne2 : wi.err ≠ 0 := by simpa using hb
          rw [if_pos hne2] at hstep
          have hw : w = wi := by rw [hwk, hstep, if_pos hne2]
          repeat first | refine opsStep ?_ | refine codeStep ?_ | refine drawStep ?_
          refine finR (l := [(6, .bool false)]) (v := .bool false) (H₁ := mH wi ++ [.cells 0 (fC5 op name md tk terms ak args), .cells 0 a.cells]) ⟨(by kernel_rfl), trivial⟩ (by kernel_rfl) (Ent.frD (l := [(6, .bool false)]) ⟨(by kernel_rfl), trivial⟩ rfl (Nat.le_refl 2) (by simp [frBel, AV.bel]) (mH_bel _)) (by kernel_rfl) ⟨by rw [hw, decide_eq_false hne2], by rw [hw]⟩
        · have hne2 : wi.err = 0 := by simpa using hb
          rw [if_neg (by simp [hne2])] at hstep
          clear hb
          repeat first | refine opsStep ?_ | refine codeStep ?_ | refine drawStep ?_
          exact ⟨⟨(i + 1, wi), hi, hstep, hao' hne2, hne2⟩, (by show terms.length - (i + 1) < terms.length - i; omega), Ent.frD (X := [.cells 0 a.cells]) ⟨(by kernel_rfl), (by kernel_rfl), (by kernel_rfl), (by kernel_rfl), (by kernel_rfl), inc_slot (i := i) (by omega), trivial⟩ (by kernel_rfl) (Nat.le_succ 2) (by simp only [frBel, AV.bel, wF, bels]; exact ⟨⟨trivial, by show 1 < 3; decide, trivial⟩, trivial, by show 2 < 3; decide, closeds_bel _ (ttsC_closed _), trivial, trivial, trivial⟩) (by simp only [mH, List.cons_append, List.nil_append, blksBel, Blk.bel]; exact ⟨msC_bel _ _, by simp [bels, AV.bel], hFB, trivial⟩)⟩
      · have hi : i = terms.length := by have : ¬ (i : Int) < terms.length := hlt; omega
        clear hlt
        subst hi
        rw [List.drop_length, ttsWalk] at h2
        rw [h2, if_neg (by simp [h4])] at hwk
        clear h2
        repeat first | refine opsStep ?_ | refine codeStep ?_ | refine drawStep ?_
        refine loopE_of (ι := {x : Nat × Ms // x.1 ≤ args.length ∧ w = ftsWalk (args.drop x.1) (d + 1) x.2 ∧ MsOk x.2 (d + 1) ∧ x.2.err = 0}) (fun x => (fr [(0, wF), (2, .int .i64 d), (32, .sl ak args.length (ftsC args)), (33, .int .i64 args.length), (34, .int .i64 x.1.1)], mH x.1.2)) (fun x => args.length - x.1.1)
          ⟨(0, mi), Nat.zero_le _, hwk, h3, h4⟩ (Ent.frD (X := [.cells 0 (fC5 op name md tk terms ak args)]) ⟨(by kernel_rfl), (by kernel_rfl), (by kernel_rfl), (by kernel_rfl), (by kernel_rfl), trivial⟩ (by kernel_rfl) (Nat.le_refl 2) (by simp only [frBel, AV.bel, wF, bels]; exact ⟨⟨trivial, by show 1 < 2; decide, trivial⟩, trivial, closeds_bel _ (ftsC_closed _), trivial, trivial, trivial⟩) (mH_bel _)) ?_
        rintro ⟨⟨i, mi⟩, h1, h2, h3, h4⟩
        simp only at h1 h2 h3 h4
        repeat first | refine opsStep ?_ | refine codeStep ?_ | refine drawStep ?_
        refine decB_dec (fun hlt => ?_) (fun hlt => ?_)
        · have hi : i < args.length := by have : (i : Int) < args.length := hlt; omega
          clear hlt
          have hld : ((ftsC args).drop ((i : Int).toNat * 5)).take 5 = (args[i]'hi).cells := by rw [Int.toNat_natCast]; exact ftsC_at hi
          have hfit : 5 ≤ ((ftsC args).drop ((i : Int).toNat * 5)).length := by rw [List.length_drop, ftsC_len, Int.toNat_natCast]; omega
          have hrec := ih (args[i]'hi) (by have := fts_nodes hi; omega) (ftsOk_iff.1 hao _ (List.getElem_mem hi)) mi (d + 1) h3 h4
          have hstep := ftsWalk_drop hi (d + 1) mi
          rw [← h2] at hstep
          have hao' := @FT.walk_ok (args[i]'hi) (d + 1) mi h3
          have haC := FT.cells_len (args[i]'hi)
          have haB : bels 2 (args[i]'hi).cells := closeds_bel _ (FT.cells_closed (args[i]'hi))
          rw [← hdi] at hrec
          generalize args[i]'hi = a at *
          generalize FT.walk a (d + 1) mi = wi at *
          repeat first | refine opsStep ?_ | refine codeStep ?_ | refine drawStep ?_
          refine guardE_of ⟨by omega, by show (i : Int) < args.length; omega⟩ ?_
          repeat first | refine opsStep ?_ | refine codeStep ?_ | refine drawStep ?_
          refine guardE_of hfit ?_
          repeat first | refine opsStep ?_ | refine codeStep ?_ | refine drawStep ?_
          refine guardE_of ⟨by show (((ftsC args).drop ((i : Int).toNat * 5)).take 5).length = 5; rw [hld]; exact haC, by decide, by decide⟩ ?_
          iterate 1 refine opsStep ?_
          refine VCode.ent (Ent.fr' (l := [(0, wF), (2, .int .i64 d), (10, .ref 2 0 0), (32, .sl ak args.length (ftsC args)), (33, .int .i64 args.length), (34, .int .i64 i)]) (H' := mH mi ++ [.cells 0 a.cells]) ⟨(by kernel_rfl), (by kernel_rfl), (by kernel_rfl), (by kernel_rfl), (by kernel_rfl), (by kernel_rfl), trivial⟩ (Eq.trans (b := mH mi ++ [.cells 0 (over [.int .i64 0, .str [], .int .i64 0, .sl .nil 0 [], .sl .nil 0 []] 0 (((ftsC args).drop ((i : Int).toNat * 5)).take 5))]) (by kernel_rfl) (by rw [hld, over5 haC]))) ?_
          repeat first | refine opsStep ?_ | refine codeStep ?_ | refine drawStep ?_
          refine guardE_of (by show 0 + 5 ≤ a.cells.length; omega) ?_
          repeat first | refine opsStep ?_ | refine codeStep ?_ | refine drawStep ?_
          have hcl : (a.cells.drop 0).take 5 = a.cells := by rw [List.drop_zero, List.take_of_length_le (by omega)]
          have hrec' : ACall Tryd.prog 73 [wF, .agg ((a.cells.drop 0).take 5), .int .i64 (IntKind.wrap .i64 ((d : Int) + 1))] (mH mi) fun o H' => o = .ret (.bool (decide (wi.err = 0))) ∧ H' = mH wi := by rw [hcl]; exact hrec
          refine callT (args := [wF, .agg ((a.cells.drop 0).take 5), .int .i64 (IntKind.wrap .i64 ((d : Int) + 1))]) hrec' [.cells 0 a.cells] rfl rfl (by rw [hcl]; simp only [bels, AV.bel, wF]; exact ⟨⟨trivial, by show 1 < 2; decide, trivial⟩, haB, trivial, trivial⟩) (mH_bel mi) (mH_bel _) (by simp [AV.bel]) ?_
          repeat first | refine opsStep ?_ | refine codeStep ?_ | refine drawStep ?_
          refine decB_split (fun hb => ?_) (fun hb => ?_)
          · have hne2 : wi.err ≠ 0 := by simpa using hb
            rw [if_pos hne2] at hstep
            repeat first | refine opsStep ?_ | refine codeStep ?_ | refine drawStep ?_
            refine finR (l := [(6, .bool false)]) (v := .bool false) (H₁ := mH wi ++ [.cells 0 a.cells]) ⟨(by kernel_rfl), trivial⟩ (by kernel_rfl) (Ent.frD (l := [(6, .bool false)]) ⟨(by kernel_rfl), trivial⟩ rfl (Nat.le_refl 2) (by simp [frBel, AV.bel]) (mH_bel _)) (by kernel_rfl) ⟨by rw [hstep, decide_eq_false hne2], by rw [hstep]⟩
          · have hne2 : wi.err = 0 := by simpa using hb
            rw [if_neg (by simp [hne2])] at hstep
            clear hb
            repeat first | refine opsStep ?_ | refine codeStep ?_ | refine drawStep ?_
            exact ⟨⟨(i + 1, wi), hi, hstep, hao' hne2, hne2⟩, (by show args.length - (i + 1) < args.length - i; omega), Ent.frD (X := [.cells 0 a.cells]) ⟨(by kernel_rfl), (by kernel_rfl), (by kernel_rfl), (by kernel_rfl), inc_slot (i := i) (by omega), trivial⟩ (by kernel_rfl) (Nat.le_refl 2) (by simp only [frBel, AV.bel, wF, bels]; exact ⟨⟨trivial, by show 1 < 2; decide, trivial⟩, trivial, closeds_bel _ (ftsC_closed _), trivial, trivial, trivial⟩) (mH_bel _)⟩
        · have hi : i = args.length := by have : ¬ (i : Int) < args.length := hlt; omega
          clear hlt
          subst hi
          rw [List.drop_length, ftsWalk] at h2
          subst h2
          repeat first | refine opsStep ?_ | refine codeStep ?_ | refine drawStep ?_
          exact finR (l := [(6, .bool true)]) (v := .bool true) (H₁ := mH w) ⟨(by kernel_rfl), trivial⟩ (by kernel_rfl) (Ent.refl _ _ _) (by kernel_rfl) ⟨by rw [decide_eq_true h4], rfl⟩

end Tab
