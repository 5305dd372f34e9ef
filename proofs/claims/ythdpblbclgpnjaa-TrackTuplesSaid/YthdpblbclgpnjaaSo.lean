/- The library's sort, of short lists. -/
import Derived.Test.YthdpblbclgpnjaaIs
namespace Tab
open Go Go.Proofs
set_option maxRecDepth 10000
set_option linter.unusedVariables false
set_option linter.unusedSimpArgs false
set_option linter.unusedSectionVars false

theorem bits_Len64 (n : Nat) (hn : n < 256) (H : List Blk) : ACall Try.prog 53 [.int .u64 n] H fun o H' => (∃ v : Int, o = .ret (.int .i64 v)) ∧ H' = H := by
  refine ACall.of_sw 25 Try.func53 rfl Try.ntmps53 (by kernel_rfl) (Nat.le_of_ble_eq_true (by kernel_rfl)) ?_; refine SW.of_vc ?_
  repeat first | refine opsStep ?_ | refine codeStep ?_ | refine drawStep ?_
  refine decB_dec (fun h1 => ?_) (fun h1 => ?_)
  · omega
  repeat first | refine opsStep ?_ | refine codeStep ?_ | refine drawStep ?_
  refine decB_dec (fun h2 => ?_) (fun h2 => ?_)
  · omega
  repeat first | refine opsStep ?_ | refine codeStep ?_ | refine drawStep ?_
  refine decB_dec (fun h3 => ?_) (fun h3 => ?_)
  · omega
  repeat first | refine opsStep ?_ | refine codeStep ?_ | refine drawStep ?_
  have hw : IntKind.wrap .u8 (n : Int) = n := IntWalk.u8_in _ (by omega)
  refine guardE_of (p := isStr Try.prog 9 = true) (by kernel_rfl) ?_
  refine guardE_of (p := (0 : Int) ≤ IntKind.wrap .u8 n) (by rw [hw]; omega) ?_
  refine optE_of (List.getElem?_eq_getElem (by rw [hw]; exact Nat.lt_of_lt_of_le hn (Nat.le_of_ble_eq_true (by kernel_rfl)))) ?_
  repeat first | refine opsStep ?_ | refine codeStep ?_ | refine drawStep ?_
  refine finR (l := [(2, _)]) (H₁ := H) ⟨rfl, trivial⟩ rfl (Ent.refl _ _ _) rfl ?_
  exact ⟨⟨_, rfl⟩, rfl⟩

/-- A call that leaves the heap, whose answer is some number. -/
theorem callI {P : Program} {f : FuncId} {args : List AV} {H : List Blk} {X : Out → List Blk → Prop} (h : ACall P f args H fun o H' => (∃ v : Int, o = .ret (.int .i64 v)) ∧ H' = H) (k : ∀ v, X (.ret (.int .i64 v)) H) :
    ∃ R : Out → List Blk → Prop, ACall P f args H R ∧ ∀ o H', R o H' → X o H' := ⟨_, h, by rintro _ _ ⟨⟨v, rfl⟩, rfl⟩; exact k v⟩

theorem bits_Len (n : Nat) (hn : n < 256) (H : List Blk) : ACall Try.prog 49 [.int .u64 n] H fun o H' => (∃ v : Int, o = .ret (.int .i64 v)) ∧ H' = H := by
  refine ACall.of_sw 8 Try.func49 rfl Try.ntmps49 (by kernel_rfl) (Nat.le_of_ble_eq_true (by kernel_rfl)) ?_; refine SW.of_vc ?_
  repeat first | refine opsStep ?_ | refine codeStep ?_ | refine drawStep ?_
  refine callI (bits_Len64 n hn H) (fun v => ?_)
  repeat first | refine opsStep ?_ | refine codeStep ?_ | refine drawStep ?_
  refine finR (l := [(2, .int .i64 v)]) (v := .int .i64 v) (H₁ := H) ⟨(by kernel_rfl), trivial⟩ rfl (Ent.refl _ _ _) (by kernel_rfl) ?_
  exact ⟨⟨v, rfl⟩, rfl⟩

theorem pdqShort (l : List (List UInt8)) (hl : l.length ≤ 12) (lim : Int) : ACall Try.prog 48 [.hs 0 0 0 l.length 1, .int .i64 0, .int .i64 l.length, .int .i64 lim] [.cells 0 (l.map .str)]
    fun o H' => o = .ret (.tup []) ∧ ∃ r, r.Perm l ∧ SrtTo r l.length ∧ H' = [.cells 0 (r.map .str)] := by
  have hw : IntKind.wrap .i64 ((l.length : Int) - 0) = l.length := by rw [IntWalk.i64_in _ (by omega)]; omega
  refine ACall.of_sw 134 Try.func48 rfl Try.ntmps48 (by kernel_rfl) (Nat.le_of_ble_eq_true (by kernel_rfl)) ?_; refine SW.of_vc ?_
  repeat first | refine opsStep ?_ | refine codeStep ?_ | refine drawStep ?_
  refine loopE_of (ι := Unit) (fun _ => (fr [(0, .hs 0 0 0 l.length 1), (1, .int .i64 0), (2, .int .i64 l.length), (3, .int .i64 lim)], [.cells 0 (l.map .str)])) (fun _ => 0) () (Ent.fr' ⟨(by kernel_rfl), (by kernel_rfl), (by kernel_rfl), (by kernel_rfl), trivial⟩ (by kernel_rfl)) ?_
  intro _
  repeat first | refine opsStep ?_ | refine codeStep ?_ | refine drawStep ?_
  refine decB_dec (fun h => ?_) (fun h => ?_)
  · repeat first | refine opsStep ?_ | refine codeStep ?_ | refine drawStep ?_
    refine ⟨_, insSort l (by omega), ?_⟩
    rintro o H' ⟨rfl, r, h1, h2, rfl⟩
    repeat first | refine opsStep ?_ | refine codeStep ?_ | refine drawStep ?_
    refine finR (l := []) (v := .tup []) (H₁ := [.cells 0 (r.map .str)]) trivial (by kernel_rfl) (Ent.refl _ _ _) (by kernel_rfl) ?_
    exact ⟨rfl, r, h1, h2, rfl⟩
  · rw [hw] at h
    omega

theorem slices_Sort (l : List (List UInt8)) (hl : l.length ≤ 12) : ACall Try.prog 43 [.hs 0 0 0 l.length 1] [.cells 0 (l.map .str)]
    fun o H' => o = .ret (.tup []) ∧ ∃ r, r.Perm l ∧ SrtTo r l.length ∧ H' = [.cells 0 (r.map .str)] := by
  have hw : IntKind.wrap .u64 (l.length : Int) = l.length := IntWalk.u64_in _ (by omega)
  have hb := fun H => bits_Len l.length (by omega) H
  rw [← hw] at hb
  refine ACall.of_sw 11 Try.func43 rfl Try.ntmps43 (by kernel_rfl) (Nat.le_of_ble_eq_true (by kernel_rfl)) ?_; refine SW.of_vc ?_
  repeat first | refine opsStep ?_ | refine codeStep ?_ | refine drawStep ?_
  refine callI (hb _) (fun v => ?_)
  repeat first | refine opsStep ?_ | refine codeStep ?_ | refine drawStep ?_
  refine ⟨_, pdqShort l hl v, ?_⟩
  rintro o H' ⟨rfl, r, h1, h2, rfl⟩
  repeat first | refine opsStep ?_ | refine codeStep ?_ | refine drawStep ?_
  refine finR (l := []) (v := .tup []) (H₁ := [.cells 0 (r.map .str)]) trivial (by kernel_rfl) (Ent.refl _ _ _) (by kernel_rfl) ?_
  exact ⟨rfl, r, h1, h2, rfl⟩

end Tab
