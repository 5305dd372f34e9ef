/- Lists put in order: the walks. -/
import Derived.Test.YthdpblbclgpnjaaSt
import Derived.Test.YthdpblbclgpnjaaCl
namespace Tab
open Go Go.Proofs
set_option maxRecDepth 10000
set_option linter.unusedVariables false
set_option linter.unusedSimpArgs false
set_option linter.unusedSectionVars false

theorem idxFunc (k : SK) (l : List (List UInt8)) (f : FuncId) (cap : List AV) (H : List Blk) (p : List UInt8 → Bool) (hl : l.length < 2^60) (hc : ∀ s ∈ l, ACall Try.prog f (.str s :: cap) H fun o H' => o = .ret (.bool (p s)) ∧ H' = H) :
    ACall Try.prog 38 [aSs k l, .fn (.func f) [] cap] H fun o H' => (∃ v : Int, o = .ret (.int .i64 v) ∧ (decide (v ≥ 0) = l.any p)) ∧ H' = H := by
  refine ACall.of_sw 19 Try.func38 rfl Try.ntmps38 (by kernel_rfl) (Nat.le_of_ble_eq_true (by kernel_rfl)) ?_; refine SW.of_vc ?_
  repeat first | refine opsStep ?_ | refine codeStep ?_ | refine drawStep ?_
  refine loopE_of (ι := {i : Nat // i ≤ l.length ∧ (l.take i).any p = false}) (fun i => (fr [(0, aSs k l), (1, .fn (.func f) [] cap), (7, .int .i64 l.length), (8, .int .i64 i.1)], H)) (fun i => l.length - i.1) ⟨0, by omega, by simp⟩ (Ent.fr' ⟨(by kernel_rfl), (by kernel_rfl), (by kernel_rfl), (by kernel_rfl), trivial⟩ rfl) ?_
  rintro ⟨i, hi, hpre⟩
  repeat first | refine opsStep ?_ | refine codeStep ?_ | refine drawStep ?_
  refine decB_dec (fun h => ?_) (fun h => ?_)
  · have hia : i < l.length := by have := h; simp at this; omega
    repeat first | refine opsStep ?_ | refine codeStep ?_ | refine drawStep ?_
    refine guardE_of (by simp; omega) ?_
    repeat first | refine opsStep ?_ | refine codeStep ?_ | refine drawStep ?_
    refine optE_of (c := .str l[i]) (by simp [Value.cells, hia]) ?_
    repeat first | refine opsStep ?_ | refine codeStep ?_ | refine drawStep ?_
    refine ⟨_, hc l[i] (List.getElem_mem hia), ?_⟩
    rintro o H' ⟨rfl, rfl⟩
    repeat first | refine opsStep ?_ | refine codeStep ?_ | refine drawStep ?_
    refine decB_split (fun h => ?_) (fun h => ?_)
    · repeat first | refine opsStep ?_ | refine codeStep ?_ | refine drawStep ?_
      refine finR (l := [(4, .int .i64 i)]) (v := .int .i64 i) (H₁ := H') ⟨(by kernel_rfl), trivial⟩ rfl (Ent.refl _ _ _) (by kernel_rfl) ?_
      refine ⟨⟨i, rfl, ?_⟩, rfl⟩
      rw [decide_eq_true (by omega), eq_comm, List.any_eq_true]
      exact ⟨_, List.getElem_mem hia, h⟩
    · repeat first | refine opsStep ?_ | refine codeStep ?_ | refine drawStep ?_
      refine ⟨⟨i + 1, by omega, ?_⟩, (by show l.length - (i + 1) < l.length - i; omega), Ent.fr' ⟨(by kernel_rfl), (by kernel_rfl), (by kernel_rfl), inc_slot (i := i) (by omega), trivial⟩ rfl⟩
      rw [List.take_succ_eq_append_getElem hia, List.any_append, hpre]
      simp [h]
  · repeat first | refine opsStep ?_ | refine codeStep ?_ | refine drawStep ?_
    have : i = l.length := by have := h; simp at this; omega
    subst this
    rw [List.take_length] at hpre
    refine finR (l := [(4, .int .i64 (-1))]) (v := .int .i64 (-1)) (H₁ := H) ⟨(by kernel_rfl), trivial⟩ rfl (Ent.refl _ _ _) (by kernel_rfl) ?_
    exact ⟨⟨-1, rfl, by rw [hpre]; rfl⟩, rfl⟩

theorem contFunc (k : SK) (l : List (List UInt8)) (f : FuncId) (cap : List AV) (H : List Blk) (p : List UInt8 → Bool) (hl : l.length < 2^60) (hc : ∀ s ∈ l, ACall Try.prog f (.str s :: cap) H fun o H' => o = .ret (.bool (p s)) ∧ H' = H) :
    ACall Try.prog 18 [aSs k l, .fn (.func f) [] cap] H fun o H' => o = .ret (.bool (l.any p)) ∧ H' = H := by
  refine ACall.of_sw 9 Try.func18 rfl Try.ntmps18 (by kernel_rfl) (Nat.le_of_ble_eq_true (by kernel_rfl)) ?_; refine SW.of_vc ?_
  repeat first | refine opsStep ?_ | refine codeStep ?_ | refine drawStep ?_
  refine ⟨_, idxFunc k l f cap H p hl hc, ?_⟩
  rintro o H' ⟨⟨v, rfl, hv⟩, rfl⟩
  repeat first | refine opsStep ?_ | refine codeStep ?_ | refine drawStep ?_
  refine finR (l := [(4, .bool (decide (v ≥ 0)))]) (v := .bool (decide (v ≥ 0))) (H₁ := H') ⟨(by kernel_rfl), trivial⟩ rfl (Ent.refl _ _ _) (by kernel_rfl) ?_
  exact ⟨by rw [hv], rfl⟩

theorem sorted1 (s : List UInt8) (hs : s.length < 2^62) : Pure Try.prog 42 [.str s] (.bool (!nameS s)) := by
  refine Pure.of_sw 6 Try.func42 rfl Try.ntmps42 (by kernel_rfl) (Nat.le_of_ble_eq_true (by kernel_rfl)) (by simp [closeds, AV.closed, aSs_closed, aIs_closed, aBs_closed, aRs_closed, aDen_closed]) (by simp [AV.closed, closeds, aSs_closed, aIs_closed, aBs_closed, aRs_closed, aDen_closed]) ?_; refine SW.of_vc ?_
  repeat first | refine opsStep ?_ | refine codeStep ?_ | refine drawStep ?_
  refine callP (glyph_Name s hs) ?_
  repeat first | refine opsStep ?_ | refine codeStep ?_ | refine drawStep ?_
  exact finB (b' := !nameS s) (by kernel_rfl) rfl

theorem glyph_Sorted (k : SK) (l : List (List UInt8)) (hl : l.length ≤ 12) (hs : ∀ s ∈ l, s.length < 2^62) : Pure Try.prog 24 [aSs k l] (.tup [aSs .any (sortR l), .int .i64 (sortE l)]) := by
  refine Pure.of_sw 15 Try.func24 rfl Try.ntmps24 (by kernel_rfl) (Nat.le_of_ble_eq_true (by kernel_rfl)) (by simp [closeds, AV.closed, aSs_closed, aIs_closed, aBs_closed, aRs_closed, aDen_closed]) (by simp [AV.closed, closeds, aSs_closed, aIs_closed, aBs_closed, aRs_closed, aDen_closed]) ?_; refine SW.of_vc ?_
  repeat first | refine opsStep ?_ | refine codeStep ?_ | refine drawStep ?_
  refine ⟨_, contFunc k l _ [] _ (fun s => !nameS s) (by omega) (fun s hm => (sorted1 s (hs s hm)).acall _), ?_⟩
  rintro o H' ⟨rfl, rfl⟩
  repeat first | refine opsStep ?_ | refine codeStep ?_ | refine drawStep ?_
  refine decB_split (fun h => ?_) (fun h => ?_)
  · have hn : nonN l = true := h
    repeat first | refine opsStep ?_ | refine codeStep ?_ | refine drawStep ?_
    refine ⟨_, _, (Ent.fr' (l := [(2, .sl .nil 0 []), (3, .int .i64 6)]) (H' := []) ⟨(by kernel_rfl), (by kernel_rfl), trivial⟩ (by kernel_rfl)).trans (Ent.slotTo (y := .sl .any 0 []) 2 rfl (fun _ _ _ _ h => sl_any h)), ?_⟩
    rw [(sort_non hn).1, (sort_non hn).2]
    kernel_rfl
  · have hn : nonN l = false := h
    repeat first | refine opsStep ?_ | refine codeStep ?_ | refine drawStep ?_
    refine callN (slices_Clone_S_new k l (by omega)) ?_
    repeat first | refine opsStep ?_ | refine codeStep ?_ | refine drawStep ?_
    refine ⟨_, slices_Sort l hl, ?_⟩
    rintro o H' ⟨rfl, r, hp, hsr, rfl⟩
    have hrl := hp.length_eq
    repeat first | refine opsStep ?_ | refine codeStep ?_ | refine drawStep ?_
    refine callB (glyph_Rises .any r (by omega) (fun s hm => hs s (hp.mem_iff.1 hm))) rfl (.cons ?_ .nil) ?_
    · show Rd [Blk.cells 0 (r.map .str)] (.hs 0 0 0 l.length 1) (aSs .any r)
      rw [← hrl]
      exact Rd.whole rfl (by simp)
    repeat first | refine opsStep ?_ | refine codeStep ?_ | refine drawStep ?_
    refine decB_split (fun h => ?_) (fun h => ?_)
    · have hr : risesS r = false := by simpa using h
      have := sort_dup hn (fun e => sort_bad hp hsr hr hn ((tog_len_iff l).1 e))
      repeat first | refine opsStep ?_ | refine codeStep ?_ | refine drawStep ?_
      refine ⟨_, _, (Ent.fr' (l := [(2, .sl .nil 0 []), (3, .int .i64 5)]) (H' := [.cells 0 (r.map .str)]) ⟨(by kernel_rfl), (by kernel_rfl), trivial⟩ (by kernel_rfl)).trans (Ent.slotTo (y := .sl .any 0 []) 2 rfl (fun _ _ _ _ h => sl_any h)), ?_⟩
      rw [this.1, this.2]
      kernel_rfl
    · have hr : risesS r = true := by simpa using h
      obtain ⟨k1, k2⟩ := sort_ok hp hr
      have := sort_fine hn ((tog_len_iff l).2 k1)
      repeat first | refine opsStep ?_ | refine codeStep ?_ | refine drawStep ?_
      refine ⟨_, _, (Ent.fr' (l := [(2, .hs 0 0 0 l.length 1), (3, .int .i64 0)]) (H' := [.cells 0 (r.map .str)]) ⟨(by kernel_rfl), (by kernel_rfl), trivial⟩ (by kernel_rfl)).trans (Ent.freeze (n := l.length) (cs := r.map .str) (es := 1) (g := 0) (b := 0) 2 rfl rfl (by simp [hrl])), ?_⟩
      rw [this.1, this.2, k2, aSs, hrl]
      kernel_rfl

end Tab
