/- Lists of names: places in them, rising ones. -/
import Derived.Test.YthdpblbclgpnjaaGn
namespace Tab
open Go Go.Proofs
set_option maxRecDepth 10000
set_option linter.unusedVariables false
set_option linter.unusedSimpArgs false
set_option linter.unusedSectionVars false

def idxS (l : List (List UInt8)) (s : List UInt8) : Int := if l.idxOf s < l.length then (l.idxOf s : Int) else -1

theorem idx_hit {l : List (List UInt8)} {s : List UInt8} {i : Nat} (hi : i < l.length) (hn : s ∉ l.take i) (h : l[i] = s) : idxS l s = i := by
  have e : l = l.take i ++ l[i] :: l.drop (i + 1) := by simp
  have : l.idxOf s = i := by
    rw [e, List.idxOf_append, if_neg hn, h, List.idxOf_cons_self]
    simp; omega
  rw [idxS, this, if_pos hi]
theorem idx_miss {l : List (List UInt8)} {s : List UInt8} (h : s ∉ l) : idxS l s = -1 := by
  rw [idxS, List.idxOf_eq_length h, if_neg (by omega)]

theorem slices_Index_S (k : SK) (l : List (List UInt8)) (s : List UInt8) (hl : l.length < 2^62) : Pure Try.prog 30 [aSs k l, .str s] (.int .i64 (idxS l s)) := by
  refine Pure.of_sw 19 Try.func30 rfl Try.ntmps30 (by kernel_rfl) (Nat.le_of_ble_eq_true (by kernel_rfl)) (by simp [closeds, AV.closed, aSs_closed, aIs_closed, aBs_closed, aRs_closed, aDen_closed]) (by simp [AV.closed, closeds, aSs_closed, aIs_closed, aBs_closed, aRs_closed, aDen_closed]) ?_; refine SW.of_vc ?_
  repeat first | refine opsStep ?_ | refine codeStep ?_ | refine drawStep ?_
  refine loopE_of (ι := {i : Nat // i ≤ l.length ∧ s ∉ l.take i}) (fun i => (fr [(0, aSs k l), (1, .str s), (7, .int .i64 l.length), (8, .int .i64 i.1)], [])) (fun i => l.length - i.1) ⟨0, by omega, by simp⟩ (Ent.fr' ⟨(by kernel_rfl), (by kernel_rfl), (by kernel_rfl), (by kernel_rfl), trivial⟩ (by kernel_rfl)) ?_
  rintro ⟨i, hi, hpre⟩
  repeat first | refine opsStep ?_ | refine codeStep ?_ | refine drawStep ?_
  refine decB_dec (fun h => ?_) (fun h => ?_)
  · have hia : i < l.length := by simpa using h
    repeat first | refine opsStep ?_ | refine codeStep ?_ | refine drawStep ?_
    refine guardE_of (by simp; omega) ?_
    repeat first | refine opsStep ?_ | refine codeStep ?_ | refine drawStep ?_
    refine optE_of (c := .str l[i]) (by simp [Value.cells, hia]) ?_
    repeat first | refine opsStep ?_ | refine codeStep ?_ | refine drawStep ?_
    refine decB_dec (fun h => ?_) (fun h => ?_)
    · repeat first | refine opsStep ?_ | refine codeStep ?_ | refine drawStep ?_
      exact finV (v' := .int .i64 i) (by kernel_rfl) (by rw [idx_hit hia hpre h.symm])
    · repeat first | refine opsStep ?_ | refine codeStep ?_ | refine drawStep ?_
      refine ⟨⟨i + 1, by omega, ?_⟩, (by show l.length - (i + 1) < l.length - i; omega), Ent.fr' ⟨(by kernel_rfl), (by kernel_rfl), (by kernel_rfl), inc_slot (i := i) (by omega), trivial⟩ (by kernel_rfl)⟩
      rw [List.take_succ_eq_append_getElem hia]
      exact fun e => (List.mem_append.1 e).elim hpre (fun e => h (List.mem_singleton.1 e))
  · repeat first | refine opsStep ?_ | refine codeStep ?_ | refine drawStep ?_
    have : i = l.length := by simp at h; omega
    exact finV (v' := .int .i64 (-1)) (by kernel_rfl) (by subst this; rw [List.take_length] at hpre; rw [idx_miss hpre])

theorem glyph_Index (k : SK) (l : List (List UInt8)) (s : List UInt8) (hl : l.length < 2^62) : Pure Try.prog 11 [aSs k l, .str s] (.int .i64 (idxS l s)) := by
  refine Pure.of_sw 8 Try.func11 rfl Try.ntmps11 (by kernel_rfl) (Nat.le_of_ble_eq_true (by kernel_rfl)) (by simp [closeds, AV.closed, aSs_closed, aIs_closed, aBs_closed, aRs_closed, aDen_closed]) (by simp [AV.closed, closeds, aSs_closed, aIs_closed, aBs_closed, aRs_closed, aDen_closed]) ?_; refine SW.of_vc ?_
  repeat first | refine opsStep ?_ | refine codeStep ?_ | refine drawStep ?_
  refine callP (slices_Index_S k l s hl) ?_
  repeat first | refine opsStep ?_ | refine codeStep ?_ | refine drawStep ?_
  exact finE_of (by kernel_rfl)

def badAt (l : List (List UInt8)) (i : Nat) : Bool := !nameS (l.getD i []) || (decide (0 < i) && !(Op.bytesLess (l.getD (i - 1) []) (l.getD i [])))
def risesS (l : List (List UInt8)) : Bool := (List.range l.length).all fun i => !badAt l i

theorem rises_bad {l : List (List UInt8)} {i : Nat} (hi : i < l.length) (h : badAt l i = true) : risesS l = false := by
  rw [risesS, ← Bool.not_eq_true, List.all_eq_true]
  intro k
  have := k i (by simp [hi])
  simp [h] at this
theorem rises_ok {l : List (List UInt8)} (h : ∀ j, j < l.length → badAt l j = false) : risesS l = true := by
  rw [risesS, List.all_eq_true]
  intro i hi
  simp [h i (by simpa using hi)]

theorem glyph_Rises (k : SK) (l : List (List UInt8)) (hl : l.length < 2^62) (hs : ∀ s ∈ l, s.length < 2^62) : Pure Try.prog 26 [aSs k l] (.bool (risesS l)) := by
  refine Pure.of_sw 29 Try.func26 rfl Try.ntmps26 (by kernel_rfl) (Nat.le_of_ble_eq_true (by kernel_rfl)) (by simp [closeds, AV.closed, aSs_closed, aIs_closed, aBs_closed, aRs_closed, aDen_closed]) (by simp [AV.closed, closeds, aSs_closed, aIs_closed, aBs_closed, aRs_closed, aDen_closed]) ?_; refine SW.of_vc ?_
  repeat first | refine opsStep ?_ | refine codeStep ?_ | refine drawStep ?_
  refine loopE_of (ι := {i : Nat // i ≤ l.length ∧ ∀ j, j < i → badAt l j = false}) (fun i => (fr [(0, aSs k l), (5, aSs k l), (6, .int .i64 l.length), (7, .int .i64 i.1)], [])) (fun i => l.length - i.1) ⟨0, by omega, by simp⟩ (Ent.fr' ⟨(by kernel_rfl), (by kernel_rfl), (by kernel_rfl), (by kernel_rfl), trivial⟩ (by kernel_rfl)) ?_
  rintro ⟨i, hi, hpre⟩
  repeat first | refine opsStep ?_ | refine codeStep ?_ | refine drawStep ?_
  refine decB_dec (fun h => ?_) (fun h => ?_)
  · have hia : i < l.length := by simpa using h
    have hg : l.getD i [] = l[i] := by simp [List.getD_eq_getElem?_getD, hia]
    have hnext : ∀ (hb : badAt l i = false) (j : Nat), j < i + 1 → badAt l j = false := fun hb j hj => by
      by_cases e : j = i
      · subst e; exact hb
      · exact hpre j (by omega)
    repeat first | refine opsStep ?_ | refine codeStep ?_ | refine drawStep ?_
    refine guardE_of (by simp; omega) ?_
    repeat first | refine opsStep ?_ | refine codeStep ?_ | refine drawStep ?_
    refine optE_of (c := .str l[i]) (by simp [Value.cells, hia]) ?_
    repeat first | refine opsStep ?_ | refine codeStep ?_ | refine drawStep ?_
    refine callP (glyph_Name l[i] (hs _ (List.getElem_mem hia))) ?_
    repeat first | refine opsStep ?_ | refine codeStep ?_ | refine drawStep ?_
    refine decB_split (fun h => ?_) (fun h => ?_)
    · repeat first | refine opsStep ?_ | refine codeStep ?_ | refine drawStep ?_
      exact finB rfl (by rw [rises_bad hia (by rw [badAt, hg]; simp at h; simp [h])])
    · repeat first | refine opsStep ?_ | refine codeStep ?_ | refine drawStep ?_
      rename_i h0
      have hn : nameS l[i] = true := by simpa using h
      refine decB_dec (fun h1 => ?_) (fun h1 => ?_)
      · have h1' : 0 < i := by simpa using h1
        have hw : IntKind.wrap .i64 ((i : Int) - 1) = ((i - 1 : Nat) : Int) := by rw [IntWalk.i64_in _ (by omega)]; omega
        have hg1 : l.getD (i - 1) [] = l[i - 1] := by simp [List.getD_eq_getElem?_getD, show i - 1 < l.length by omega]
        repeat first | refine opsStep ?_ | refine codeStep ?_ | refine drawStep ?_
        refine guardE_of (by rw [hw]; omega) ?_
        repeat first | refine opsStep ?_ | refine codeStep ?_ | refine drawStep ?_
        refine optE_of (c := .str l[i - 1]) (by rw [hw]; simp [Value.cells, show i - 1 < l.length by omega]) ?_
        repeat first | refine opsStep ?_ | refine codeStep ?_ | refine drawStep ?_
        refine decB_split (fun h => ?_) (fun h => ?_)
        · repeat first | refine opsStep ?_ | refine codeStep ?_ | refine drawStep ?_
          exact finB rfl (by rw [rises_bad hia (by rw [badAt, hg, hg1]; simp at h; simp [h, h1'])])
        · repeat first | refine opsStep ?_ | refine codeStep ?_ | refine drawStep ?_
          refine ⟨⟨i + 1, by omega, hnext (by rw [badAt, hg, hg1]; simp at h; simp [h, hn])⟩, (by show l.length - (i + 1) < l.length - i; omega), Ent.fr' ⟨(by kernel_rfl), (by kernel_rfl), (by kernel_rfl), inc_slot (i := i) (by omega), trivial⟩ (by kernel_rfl)⟩
      · repeat first | refine opsStep ?_ | refine codeStep ?_ | refine drawStep ?_
        have h1' : i = 0 := by simp at h1; omega
        refine ⟨⟨i + 1, by omega, hnext (by rw [badAt, hg, hn, decide_eq_false (show ¬ 0 < i by omega)]; simp)⟩, (by show l.length - (i + 1) < l.length - i; omega), Ent.fr' ⟨(by kernel_rfl), (by kernel_rfl), (by kernel_rfl), inc_slot (i := i) (by omega), trivial⟩ (by kernel_rfl)⟩
  · repeat first | refine opsStep ?_ | refine codeStep ?_ | refine drawStep ?_
    have : i = l.length := by simp at h; omega
    exact finB rfl (by subst this; rw [rises_ok hpre])

end Tab
