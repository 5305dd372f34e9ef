/- Lemmas for this claim: part 10. No condition. -/
import Derived.Test.YtiflemdfnjgobaaDoorZ8
import Derived.Test.YtiflemdfnjgobaaDoorZ9
/- Trees are measured. -/
namespace Tab
open Go Go.Proofs
set_option maxRecDepth 10000
set_option linter.unusedVariables false
set_option linter.unusedSimpArgs false
set_option linter.unusedSectionVars false
set_option maxHeartbeats 1000000

theorem met (b : Nat) (H : List Blk) : ACall Tryd.prog 54 [.ref b 0 0] H fun o H' => o = .ret (.fn (.func 81) [] [.ref H.length 0 0]) ∧ H' = H ++ [.cells 0 [.ref b 0 0]] := by
  refine ACall.of_sw 4 Tryd.func54 rfl Tryd.ntmps54 (by kernel_rfl) (Nat.le_of_ble_eq_true (by kernel_rfl)) ?_; refine SW.of_vc ?_
  repeat first | refine opsStep ?_ | refine codeStep ?_ | refine drawStep ?_
  exact finR (l := [(2, .fn (.func 81) [] [.ref H.length 0 0])]) (H₁ := H ++ [.cells 0 [.ref b 0 0]]) ⟨(by kernel_rfl), trivial⟩ (by kernel_rfl) (Ent.refl _ _ _) (by kernel_rfl) ⟨rfl, rfl⟩

theorem down_of {ops : List Oper} {D : Nat → Bool} (h : Down ops D) {j i : Nat} {o : Oper} {e : Edge} (hj : ops[j]? = some o) (he : e ∈ o.after) (hb : Region.binds .any e = true) (hi : e.on = i) (hD : D i = false) : D j = false := by
  cases hd : D j with
  | false => rfl
  | true => have := h j o e hd hj he hb; rw [hi, hD] at this; cases this
theorem addD_self (D : Nat → Bool) (i : Nat) : addD D i i = true := by simp [addD]
theorem addD_ne (D : Nat → Bool) {i j : Nat} (h : j ≠ i) : addD D i j = D j := by simp [addD, h]

def c1S (x : List AV) (b0 b1 : Bool) : Slots := fr [(1, .ref 0 0 0), (3, .ref 1 0 0), (5, cond b0 (.fn (.func 81) [] [.ref 2 0 0]) .junk), (6, cond b1 (.agg x) .junk)]
def c1H (x : List AV) (m : Ms) (b0 b2 : Bool) : List Blk := cond b2 [.cells 0 x, .cells 0 (msC m), .cells 0 [.ref 1 0 0]] (cond b0 [.cells 0 x, .cells 0 (msC ms0), .cells 0 [.ref 1 0 0]] [.cells 0 x, .cells 0 (msC ms0)])
theorem tree_CheckTerm (t : TT) (hok : t.ok) : Pure Tryd.prog 35 [.agg t.cells] (.int .i64 (chkT t)) := by
  have hw := walk_term _ t (Nat.le_refl _) hok ms0 1 ⟨by decide, by decide, by decide⟩ rfl
  have hxl := TT.cells_len t
  have hxc := TT.cells_closed t
  rw [chkT]
  generalize TT.walk t 1 ms0 = m at *
  generalize t.cells = x at *
  refine Pure.of_sw 10 Tryd.func35 rfl Tryd.ntmps35 (by kernel_rfl) (Nat.le_of_ble_eq_true (by kernel_rfl)) (by simp only [closeds, AV.closed]; exact ⟨hxc, trivial⟩) (by simp only [AV.closed]) ?_
  refine SW.of_vc ?_
  repeat first | refine opsStep ?_ | refine codeStep ?_ | refine drawStep ?_
  refine SW.anyO (ι := Unit) (fun _ => True) (fun D _ => (c1S x (D 0) (D 1), c1H x m (D 0) (D 2))) rfl (by kernel_rfl) (by kernel_rfl) (by kernel_rfl) ?_ ?_ ?_
  · intro D hD
    refine ⟨trivial, (), ?_⟩
    simp only [hD 0 (by decide), hD 1 (by decide), hD 2 (by decide)]
    exact Ent.fr' ⟨(by kernel_rfl), (by kernel_rfl), (by kernel_rfl), (by kernel_rfl), trivial⟩ (by kernel_rfl)
  · intro D _ i o _ hdn ho hDi hrdy
    match i, ho with
    | 0, ho =>
      cases ho
      have h2 : D 2 = false := down_of hdn (j := 2) (e := ⟨0, .data⟩) rfl (by simp) rfl rfl hDi
      show vcRun Tryd.prog _ (c1S x (D 0) (D 1)) (c1H x m (D 0) (D 2)) _ (fun s H => True ∧ ∃ y : Unit, Ent _ s H (c1S x (addD D 0 0) (addD D 0 1)) (c1H x m (addD D 0 0) (addD D 0 2)))
      rw [addD_self, addD_ne D (by decide), addD_ne D (by decide), hDi, h2]
      refine ⟨_, met 1 [.cells 0 x, .cells 0 (msC ms0)], ?_⟩
      rintro _ _ ⟨rfl, rfl⟩
      exact ⟨trivial, (), Ent.fr' ⟨(by kernel_rfl), (by kernel_rfl), (by kernel_rfl), (by kernel_rfl), trivial⟩ (by kernel_rfl)⟩
    | 1, ho =>
      cases ho
      have h2 : D 2 = false := down_of hdn (j := 2) (e := ⟨1, .data⟩) rfl (by simp) rfl rfl hDi
      show vcRun Tryd.prog _ (c1S x (D 0) (D 1)) (c1H x m (D 0) (D 2)) _ (fun s H => True ∧ ∃ y : Unit, Ent _ s H (c1S x (addD D 1 0) (addD D 1 1)) (c1H x m (addD D 1 0) (addD D 1 2)))
      rw [addD_self, addD_ne D (by decide), addD_ne D (by decide), hDi, h2]
      have hcl : (x.drop 0).take 4 = x := by rw [List.drop_zero, List.take_of_length_le (by omega)]
      cases D 0 with
      | true =>
        refine guardE_of (by show 0 + 4 ≤ x.length; omega) ?_
        exact ⟨trivial, (), Ent.fr' ⟨(by kernel_rfl), (by kernel_rfl), (by kernel_rfl), Eq.trans (b := .agg ((x.drop 0).take 4)) (by kernel_rfl) (by rw [hcl]; rfl), trivial⟩ (by kernel_rfl)⟩
      | false =>
        refine guardE_of (by show 0 + 4 ≤ x.length; omega) ?_
        exact ⟨trivial, (), Ent.fr' ⟨(by kernel_rfl), (by kernel_rfl), (by kernel_rfl), Eq.trans (b := .agg ((x.drop 0).take 4)) (by kernel_rfl) (by rw [hcl]; rfl), trivial⟩ (by kernel_rfl)⟩
    | 2, ho =>
      cases ho
      have h0 : D 0 = true := hrdy ⟨0, .data⟩ (by simp) rfl
      have h1 : D 1 = true := hrdy ⟨1, .data⟩ (by simp) rfl
      show vcRun Tryd.prog _ (c1S x (D 0) (D 1)) (c1H x m (D 0) (D 2)) _ (fun s H => True ∧ ∃ y : Unit, Ent _ s H (c1S x (addD D 2 0) (addD D 2 1)) (c1H x m (addD D 2 0) (addD D 2 2)))
      rw [addD_self, addD_ne D (by decide), addD_ne D (by decide), hDi, h0, h1]
      refine callF [1, 2] hw (by decide) (by intro b hb; simp at hb; show b < 3; omega) rfl ?_ ?_ ?_ ?_ ?_
      · rfl
      · simp only [bels, AV.bel, wF]; exact ⟨⟨trivial, by show 1 < 2; decide, trivial⟩, closeds_bel _ hxc, trivial, trivial⟩
      · exact mH_bel _
      · simp only [rns, AV.rn, wF, closeds_rn _ hxc]
        rfl
      · rintro _ _ ⟨rfl, rfl⟩
        exact ⟨trivial, (), Ent.fr' ⟨(by kernel_rfl), (by kernel_rfl), (by kernel_rfl), (by kernel_rfl), trivial⟩ (by kernel_rfl)⟩
  · intro D _ _ hD
    show VCode _ _ _ _ _ _
    simp only [hD 0 (by decide), hD 1 (by decide), hD 2 (by decide)]
    repeat first | refine opsStep ?_ | refine codeStep ?_ | refine drawStep ?_
    exact finV (v' := .int .i64 m.err) (by kernel_rfl) rfl

def c2S (x : List AV) (b0 b1 : Bool) : Slots := fr [(1, .ref 0 0 0), (2, .ref 1 0 0), (3, .ref 2 0 0), (5, cond b0 (.fn (.func 81) [] [.ref 3 0 0]) .junk), (6, cond b1 (.agg x) .junk)]
def c2H (x : List AV) (m : Ms) (b0 b2 : Bool) : List Blk := cond b2 [.cells 0 x, .cells 0 (msC ms0), .cells 0 (msC m), .cells 0 [.ref 2 0 0]] (cond b0 [.cells 0 x, .cells 0 (msC ms0), .cells 0 (msC ms0), .cells 0 [.ref 2 0 0]] [.cells 0 x, .cells 0 (msC ms0), .cells 0 (msC ms0)])
theorem tree_measured (t : FT) (hok : t.ok) : Pure Tryd.prog 47 [.agg t.cells] (.agg (msC (t.walk 1 ms0))) := by
  have hw := walk_formula _ t (Nat.le_refl _) hok ms0 1 ⟨by decide, by decide, by decide⟩ rfl
  have hxl := FT.cells_len t
  have hxc := FT.cells_closed t
  generalize FT.walk t 1 ms0 = m at *
  generalize t.cells = x at *
  refine Pure.of_sw 9 Tryd.func47 rfl Tryd.ntmps47 (by kernel_rfl) (Nat.le_of_ble_eq_true (by kernel_rfl)) (by simp only [closeds, AV.closed]; exact ⟨hxc, trivial⟩) (by simp only [AV.closed]; exact msC_closed _) ?_
  refine SW.of_vc ?_
  repeat first | refine opsStep ?_ | refine codeStep ?_ | refine drawStep ?_
  refine SW.anyO (ι := Unit) (fun _ => True) (fun D _ => (c2S x (D 0) (D 1), c2H x m (D 0) (D 2))) rfl (by kernel_rfl) (by kernel_rfl) (by kernel_rfl) ?_ ?_ ?_
  · intro D hD
    refine ⟨trivial, (), ?_⟩
    simp only [hD 0 (by decide), hD 1 (by decide), hD 2 (by decide)]
    exact Ent.fr' ⟨(by kernel_rfl), (by kernel_rfl), (by kernel_rfl), (by kernel_rfl), (by kernel_rfl), trivial⟩ (by kernel_rfl)
  · intro D _ i o _ hdn ho hDi hrdy
    match i, ho with
    | 0, ho =>
      cases ho
      have h2 : D 2 = false := down_of hdn (j := 2) (e := ⟨0, .data⟩) rfl (by simp) rfl rfl hDi
      show vcRun Tryd.prog _ (c2S x (D 0) (D 1)) (c2H x m (D 0) (D 2)) _ (fun s H => True ∧ ∃ y : Unit, Ent _ s H (c2S x (addD D 0 0) (addD D 0 1)) (c2H x m (addD D 0 0) (addD D 0 2)))
      rw [addD_self, addD_ne D (by decide), addD_ne D (by decide), hDi, h2]
      refine ⟨_, met 2 [.cells 0 x, .cells 0 (msC ms0), .cells 0 (msC ms0)], ?_⟩
      rintro _ _ ⟨rfl, rfl⟩
      exact ⟨trivial, (), Ent.fr' ⟨(by kernel_rfl), (by kernel_rfl), (by kernel_rfl), (by kernel_rfl), (by kernel_rfl), trivial⟩ (by kernel_rfl)⟩
    | 1, ho =>
      cases ho
      have h2 : D 2 = false := down_of hdn (j := 2) (e := ⟨1, .data⟩) rfl (by simp) rfl rfl hDi
      show vcRun Tryd.prog _ (c2S x (D 0) (D 1)) (c2H x m (D 0) (D 2)) _ (fun s H => True ∧ ∃ y : Unit, Ent _ s H (c2S x (addD D 1 0) (addD D 1 1)) (c2H x m (addD D 1 0) (addD D 1 2)))
      rw [addD_self, addD_ne D (by decide), addD_ne D (by decide), hDi, h2]
      have hcl : (x.drop 0).take 5 = x := by rw [List.drop_zero, List.take_of_length_le (by omega)]
      cases D 0 with
      | true =>
        refine guardE_of (by show 0 + 5 ≤ x.length; omega) ?_
        exact ⟨trivial, (), Ent.fr' ⟨(by kernel_rfl), (by kernel_rfl), (by kernel_rfl), (by kernel_rfl), Eq.trans (b := .agg ((x.drop 0).take 5)) (by kernel_rfl) (by rw [hcl]; rfl), trivial⟩ (by kernel_rfl)⟩
      | false =>
        refine guardE_of (by show 0 + 5 ≤ x.length; omega) ?_
        exact ⟨trivial, (), Ent.fr' ⟨(by kernel_rfl), (by kernel_rfl), (by kernel_rfl), (by kernel_rfl), Eq.trans (b := .agg ((x.drop 0).take 5)) (by kernel_rfl) (by rw [hcl]; rfl), trivial⟩ (by kernel_rfl)⟩
    | 2, ho =>
      cases ho
      have h0 : D 0 = true := hrdy ⟨0, .data⟩ (by simp) rfl
      have h1 : D 1 = true := hrdy ⟨1, .data⟩ (by simp) rfl
      show vcRun Tryd.prog _ (c2S x (D 0) (D 1)) (c2H x m (D 0) (D 2)) _ (fun s H => True ∧ ∃ y : Unit, Ent _ s H (c2S x (addD D 2 0) (addD D 2 1)) (c2H x m (addD D 2 0) (addD D 2 2)))
      rw [addD_self, addD_ne D (by decide), addD_ne D (by decide), hDi, h0, h1]
      refine callF [2, 3] hw (by decide) (by intro b hb; simp at hb; show b < 4; omega) rfl ?_ ?_ ?_ ?_ ?_
      · rfl
      · simp only [bels, AV.bel, wF]; exact ⟨⟨trivial, by show 1 < 2; decide, trivial⟩, closeds_bel _ hxc, trivial, trivial⟩
      · exact mH_bel _
      · simp only [rns, AV.rn, wF, closeds_rn _ hxc]
        rfl
      · rintro _ _ ⟨rfl, rfl⟩
        exact ⟨trivial, (), Ent.fr' ⟨(by kernel_rfl), (by kernel_rfl), (by kernel_rfl), (by kernel_rfl), (by kernel_rfl), trivial⟩ (by kernel_rfl)⟩
  · intro D _ _ hD
    show VCode _ _ _ _ _ _
    simp only [hD 0 (by decide), hD 1 (by decide), hD 2 (by decide)]
    repeat first | refine opsStep ?_ | refine codeStep ?_ | refine drawStep ?_
    refine finV (v' := .agg (((msC ms0).take 0 ++ msC m) ++ (msC ms0).drop 3)) (by kernel_rfl) ?_
    simp [msC]

theorem tree_Check (t : FT) (hok : t.ok) : Pure Tryd.prog 25 [.agg t.cells] (.int .i64 (chkF t)) := by
  have hm := tree_measured t hok
  have hxl := FT.cells_len t
  have hxc := FT.cells_closed t
  rw [chkF]
  generalize FT.walk t 1 ms0 = m at *
  generalize t.cells = x at *
  have hcl : (x.drop 0).take 5 = x := by rw [List.drop_zero, List.take_of_length_le (by omega)]
  have hm' : Pure Tryd.prog 47 [.agg ((x.drop 0).take 5)] (.agg (msC m)) := by rw [hcl]; exact hm
  refine Pure.of_sw 6 Tryd.func25 rfl Tryd.ntmps25 (by kernel_rfl) (Nat.le_of_ble_eq_true (by kernel_rfl)) (by simp only [closeds, AV.closed]; exact ⟨hxc, trivial⟩) (by simp only [AV.closed]) ?_
  refine SW.of_vc ?_
  repeat first | refine opsStep ?_ | refine codeStep ?_ | refine drawStep ?_
  refine guardE_of (by show 0 + 5 ≤ x.length; omega) ?_
  repeat first | refine opsStep ?_ | refine codeStep ?_ | refine drawStep ?_
  refine callP hm' ?_
  repeat first | refine opsStep ?_ | refine codeStep ?_ | refine drawStep ?_
  exact finV (v' := .int .i64 m.err) (by kernel_rfl) rfl

end Tab

/- Two readers side by side. -/
namespace Tab
open Go
set_option maxRecDepth 10000
set_option linter.unusedVariables false
set_option linter.unusedSimpArgs false
set_option linter.unusedSectionVars false

structure Sim (e e' : Nat × Nat) (S : Rs → Rs → Prop) (B : Rs → Prop) : Prop where
  mono : Mono e B
  take : ∀ r r' L, S r r' → [] ∉ L → B (r.take L).2 ∨ ((r.take L).1 = (r'.take L).1 ∧ S (r.take L).2 (r'.take L).2)
  wrong : ∀ r r', S r r' → B (r.wrong e 71) ∨ S (r.wrong e 71) (r'.wrong e' 71)
  word : ∀ r r' k, S r r' → B (r.word e k).2 ∨ ((r.word e k).1.text = (r'.word e' k).1.text ∧ S (r.word e k).2 (r'.word e' k).2)
  leaf : ∀ r r', S r r' → B (leafP e r).2 ∨ ((leafP e r).1 = (leafP e' r').1 ∧ S (leafP e r).2 (leafP e' r').2)
  mod : ∀ r r', S r r' → B (modS e r).2 ∨ ((modS e r).1 = (modS e' r').1 ∧ S (modS e r).2 (modS e' r').2)
section
variable {e e' : Nat × Nat} {S : Rs → Rs → Prop} {B : Rs → Prop} (M : Sim e e' S B)
include M
end

end Tab

/- Words of a text that stands further on: plain. -/
namespace Tab
open Go
set_option maxRecDepth 10000
set_option linter.unusedVariables false
set_option linter.unusedSimpArgs false
set_option linter.unusedSectionVars false

def mvW (d e : Nat) (w : Wd) : Wd := ⟨w.kind, w.text, w.num, w.at' + d, w.ch + e⟩
def mvFl (d e : Nat) (f : Flt) : Flt := if f.why ≠ 0 then ⟨f.why, f.at' + d, f.ch + e⟩ else f
theorem lexW_mv (d e : Nat) : ∀ (n : Nat) (x : Str), x.length = n → ∀ (a ch : Nat), lexW x (a + d) (ch + e) = ((lexW x a ch).1.map (mvW d e), mvFl d e (lexW x a ch).2) := by
  intro n
  induction n using Nat.strongRecOn with
  | _ n ih =>
    intro x hn a ch
    rcases part_of x with h | h
    · rw [lexW_nil h, lexW_nil h]; simp [mvFl, flt0]
    · obtain ⟨l1, l2⟩ := h.lt
      generalize hbe : runS blankR x = b at *
      generalize hxe : x.drop b = x1 at *
      generalize hte : tokS x1 = t at *
      by_cases he : t.err = 0
      · obtain ⟨n1, n2, n3, _⟩ := h.tokN he
        rw [lexW_tok h he, lexW_tok h he]
        have := ih _ (by rw [List.length_drop]; omega) (x1.drop t.n) rfl (a + b + t.n) (ch + chS (x.take b) + chS (x1.take t.n))
        rw [show a + d + b + t.n = a + b + t.n + d by omega, show ch + e + chS (x.take b) + chS (x1.take t.n) = ch + chS (x.take b) + chS (x1.take t.n) + e by omega, this]
        simp only [List.map_cons, mvW]
        rw [show a + d + b = a + b + d by omega, show ch + e + chS (x.take b) = ch + chS (x.take b) + e by omega]
      · rw [lexW_bad h he, lexW_bad h he]
        simp only [mvFl, if_pos he, List.map_nil]
        rw [show a + d + b = a + b + d by omega, show ch + e + chS (x.take b) = ch + chS (x.take b) + e by omega]

end Tab

/- Lists of names: places in them, rising ones. -/
namespace Tab
open Go Go.Proofs
set_option maxRecDepth 10000
set_option linter.unusedVariables false
set_option linter.unusedSimpArgs false
set_option linter.unusedSectionVars false

end Tab

/- Texts in order; the library's sort of short lists. -/
namespace Tab
open Go Go.Proofs
set_option maxRecDepth 10000
set_option linter.unusedVariables false
set_option linter.unusedSimpArgs false
set_option linter.unusedSectionVars false

abbrev less (a b : List UInt8) : Bool := Op.bytesLess a b
end Tab

/- The library's sort, of short lists. -/
namespace Tab
open Go Go.Proofs
set_option maxRecDepth 10000
set_option linter.unusedVariables false
set_option linter.unusedSimpArgs false
set_option linter.unusedSectionVars false

end Tab

/- How many digits a number needs. -/
namespace Tab
open Go Go.Proofs
set_option maxRecDepth 10000
set_option linter.unusedVariables false
set_option linter.unusedSimpArgs false
set_option linter.unusedSectionVars false


def bitsN (n : Nat) : Nat := if n = 0 then 0 else n.log2 + 1
theorem bitsN_le : ∀ n, n < 256 → bitsN n ≤ 8 := by decide +kernel
def cutN (c n : Nat) : Nat := if c ≤ n then n / c else n
def addN (c k n : Nat) : Nat := if c ≤ n then k else 0
def lenN (n : Nat) : Nat := addN 4294967296 32 n + addN 65536 16 (cutN 4294967296 n) + addN 256 8 (cutN 65536 (cutN 4294967296 n)) + bitsN (cutN 256 (cutN 65536 (cutN 4294967296 n)))
theorem tab_at (l : List UInt8) (h : ((List.range 256).all fun k => l[k]? == some (UInt8.ofNat (bitsN k))) = true) (n : Nat) (hn : n < 256) : l[(n : Int).toNat]? = some (UInt8.ofNat (bitsN n)) := by
  have := List.all_eq_true.1 h n (List.mem_range.2 hn)
  simpa using this

theorem shr_nat (n k : Nat) (hk : k ≤ 64) : (n : Int).fdiv (2 ^ (min (k : Int).toNat 64)) = ((n / 2 ^ k : Nat) : Int) := by
  rw [show min (k : Int).toNat 64 = k by simp; omega, show (2 : Int) ^ k = ((2 ^ k : Nat) : Int) by simp]
  rw [Int.fdiv_eq_ediv_of_nonneg _ (Int.natCast_nonneg _)]
  rfl

theorem Len64_val (n : Nat) (hn : n < 2 ^ 64) : Pure Tryd.prog 127 [.int .u64 n] (.int .i64 (lenN n : Nat)) := by
  have b1 : cutN 4294967296 n < 2 ^ 32 := by rw [cutN]; split <;> omega
  have b2 : cutN 65536 (cutN 4294967296 n) < 2 ^ 16 := by rw [cutN]; split <;> omega
  have b3 : cutN 256 (cutN 65536 (cutN 4294967296 n)) < 256 := by rw [cutN]; split <;> omega
  refine Pure.of_sw 25 Tryd.func127 rfl Tryd.ntmps127 (by kernel_rfl) (Nat.le_of_ble_eq_true (by kernel_rfl)) (by simp [closeds, AV.closed, aSs_closed, aIs_closed, aBs_closed, aRs_closed, aDen_closed]) (by simp [AV.closed, closeds, aSs_closed, aIs_closed, aBs_closed, aRs_closed, aDen_closed]) ?_; refine SW.of_vc ?_
  iterate 2 refine codeStep ?_
  iterate 2 refine opsStep ?_
  iterate 3 refine codeStep ?_
  iterate 3 refine opsStep ?_
  refine VCode.join (b := decide ((n : Int) ≥ 4294967296)) (fr [(0, .int .u64 (cutN 4294967296 n : Nat)), (2, .int .i64 (addN 4294967296 32 n : Nat))]) [] (by kernel_rfl) (fun hz => ?_) (fun hz => ?_) (fun s₁ H₁ he => VCode.ent he ?_)
  · have hz : (n : Int) ≥ 4294967296 := of_decide_eq_true hz
    have hz : 4294967296 ≤ n := by omega
    repeat first | refine opsStep ?_ | refine codeStep ?_ | refine drawStep ?_
    refine Ent.fr' ⟨?_, ?_, trivial⟩ (by kernel_rfl)
    · show AV.int .u64 ((n : Int).fdiv (2 ^ (min ((32 : Nat) : Int).toNat 64))) = _
      rw [shr_nat n 32 (by omega), cutN, if_pos hz]
    · rw [addN, if_pos hz]; rfl
  · have hz : ¬ (n : Int) ≥ 4294967296 := of_decide_eq_false hz
    have hz : ¬ 4294967296 ≤ n := by omega
    repeat first | refine opsStep ?_ | refine codeStep ?_ | refine drawStep ?_
    refine Ent.fr' ⟨?_, ?_, trivial⟩ (by kernel_rfl)
    · rw [cutN, if_neg hz]; rfl
    · rw [addN, if_neg hz]; rfl
  simp only [lenN]
  have ha1 : addN 4294967296 32 n ≤ 32 := by rw [addN]; split <;> omega
  generalize cutN 4294967296 n = m at *
  generalize addN 4294967296 32 n = a at *
  iterate 3 refine codeStep ?_
  iterate 3 refine opsStep ?_
  refine VCode.join (b := decide ((m : Int) ≥ 65536)) (fr [(0, .int .u64 (cutN 65536 m : Nat)), (2, .int .i64 ((a + addN 65536 16 m : Nat) : Int))]) [] (by kernel_rfl) (fun hz => ?_) (fun hz => ?_) (fun s₁ H₁ he => VCode.ent he ?_)
  · have hz : (m : Int) ≥ 65536 := of_decide_eq_true hz
    have hz : 65536 ≤ m := by omega
    repeat first | refine opsStep ?_ | refine codeStep ?_ | refine drawStep ?_
    refine Ent.fr' ⟨?_, ?_, trivial⟩ (by kernel_rfl)
    · show AV.int .u64 ((m : Int).fdiv (2 ^ (min ((16 : Nat) : Int).toNat 64))) = _
      rw [shr_nat m 16 (by omega), cutN, if_pos hz]
    · show AV.int .i64 (IntKind.wrap .i64 ((a : Int) + 16)) = _
      rw [addN, if_pos hz, IntWalk.i64_in _ (by omega)]; rfl
  · have hz : ¬ (m : Int) ≥ 65536 := of_decide_eq_false hz
    have hz : ¬ 65536 ≤ m := by omega
    repeat first | refine opsStep ?_ | refine codeStep ?_ | refine drawStep ?_
    refine Ent.fr' ⟨?_, ?_, trivial⟩ (by kernel_rfl)
    · rw [cutN, if_neg hz]; rfl
    · rw [addN, if_neg hz]; rfl
  have ha2 : a + addN 65536 16 m ≤ 48 := by rw [addN]; split <;> omega
  generalize cutN 65536 m = n2 at *
  generalize a + addN 65536 16 m = a2 at *
  iterate 3 refine codeStep ?_
  iterate 3 refine opsStep ?_
  refine VCode.join (b := decide ((n2 : Int) ≥ 256)) (fr [(0, .int .u64 (cutN 256 n2 : Nat)), (2, .int .i64 ((a2 + addN 256 8 n2 : Nat) : Int))]) [] (by kernel_rfl) (fun hz => ?_) (fun hz => ?_) (fun s₁ H₁ he => VCode.ent he ?_)
  · have hz : (n2 : Int) ≥ 256 := of_decide_eq_true hz
    have hz : 256 ≤ n2 := by omega
    repeat first | refine opsStep ?_ | refine codeStep ?_ | refine drawStep ?_
    refine Ent.fr' ⟨?_, ?_, trivial⟩ (by kernel_rfl)
    · show AV.int .u64 ((n2 : Int).fdiv (2 ^ (min ((8 : Nat) : Int).toNat 64))) = _
      rw [shr_nat n2 8 (by omega), cutN, if_pos hz]
    · show AV.int .i64 (IntKind.wrap .i64 ((a2 : Int) + 8)) = _
      rw [addN, if_pos hz, IntWalk.i64_in _ (by omega)]; rfl
  · have hz : ¬ (n2 : Int) ≥ 256 := of_decide_eq_false hz
    have hz : ¬ 256 ≤ n2 := by omega
    repeat first | refine opsStep ?_ | refine codeStep ?_ | refine drawStep ?_
    refine Ent.fr' ⟨?_, ?_, trivial⟩ (by kernel_rfl)
    · rw [cutN, if_neg hz]; rfl
    · rw [addN, if_neg hz]; rfl
  have ha3 : a2 + addN 256 8 n2 ≤ 56 := by rw [addN]; split <;> omega
  generalize cutN 256 n2 = n3 at *
  generalize a2 + addN 256 8 n2 = a3 at *
  have hw : IntKind.wrap .u8 (n3 : Int) = n3 := IntWalk.u8_in _ (by omega)
  have hk := bitsN_le n3 b3
  repeat first | refine opsStep ?_ | refine codeStep ?_ | refine drawStep ?_
  refine guardE_of (p := isStr Tryd.prog 9 = true) (by kernel_rfl) ?_
  refine guardE_of (p := (0 : Int) ≤ IntKind.wrap .u8 n3) (by rw [hw]; omega) ?_
  refine optE_of (c := UInt8.ofNat (bitsN n3)) (by rw [hw]; exact tab_at _ (by kernel_rfl) n3 b3) ?_
  have hu : (UInt8.ofNat (bitsN n3)).toNat = bitsN n3 := by rw [UInt8.toNat_ofNat']; omega
  repeat first | refine opsStep ?_ | refine codeStep ?_ | refine drawStep ?_
  exact finV (v' := .int .i64 (IntKind.wrap .i64 ((a3 : Int) + IntKind.wrap .i64 ((UInt8.ofNat (bitsN n3)).toNat : Nat)))) (by kernel_rfl) (by
    rw [hu, IntWalk.i64_in (bitsN n3 : Nat) (by omega), IntWalk.i64_in _ (by omega)]; congr 1)

end Tab

/- A number's digits, counted and laid down: plain. -/
namespace Tab
open Go
set_option maxRecDepth 10000
set_option linter.unusedVariables false
set_option linter.unusedSimpArgs false
set_option linter.unusedSectionVars false

def isLen (n L : Nat) : Prop := 1 ≤ L ∧ 2 ^ (L - 1) ≤ n ∧ n < 2 ^ L
theorem isLen_small : ∀ n, n < 256 → 0 < n → isLen n (bitsN n) := by
  have k : ∀ n, n < 256 → 0 < n → 1 ≤ bitsN n ∧ 2 ^ (bitsN n - 1) ≤ n ∧ n < 2 ^ bitsN n := by decide +kernel
  exact k
theorem cut_pos {k n : Nat} (h : 0 < n) : 0 < cutN (2 ^ k) n := by
  rw [cutN]; split
  · exact Nat.div_pos (by assumption) (Nat.two_pow_pos k)
  · exact h
theorem isLen_cut {k n L : Nat} (h : isLen (cutN (2 ^ k) n) L) : isLen n (addN (2 ^ k) k n + L) := by
  obtain ⟨h1, h2, h3⟩ := h
  rw [cutN] at h2 h3
  rw [addN]
  split
  · rename_i hc
    rw [if_pos hc] at h2 h3
    have e1 := (Nat.le_div_iff_mul_le (Nat.two_pow_pos k)).1 h2
    have e2 := (Nat.div_lt_iff_lt_mul (Nat.two_pow_pos k)).1 h3
    rw [← Nat.pow_add] at e1 e2
    exact ⟨by omega, by rw [show k + L - 1 = L - 1 + k by omega]; exact e1, by rw [Nat.add_comm]; exact e2⟩
  · rename_i hc
    rw [if_neg hc] at h2 h3
    rw [Nat.zero_add]
    exact ⟨h1, h2, h3⟩
theorem isLen_lenN {n : Nat} (h0 : 0 < n) (h : n < 2 ^ 64) : isLen n (lenN n) := by
  have b1 : cutN 4294967296 n < 2 ^ 32 := by rw [cutN]; split <;> omega
  have b2 : cutN 65536 (cutN 4294967296 n) < 2 ^ 16 := by rw [cutN]; split <;> omega
  have b3 : cutN 256 (cutN 65536 (cutN 4294967296 n)) < 256 := by rw [cutN]; split <;> omega
  have p1 := cut_pos (k := 32) h0
  have p2 := cut_pos (k := 16) p1
  have p3 := cut_pos (k := 8) p2
  have k3 := isLen_small _ b3 p3
  have k2 := isLen_cut (k := 8) k3
  have k1 := isLen_cut (k := 16) k2
  have k0 := isLen_cut (k := 32) k1
  rw [lenN]
  rw [show addN 4294967296 32 n + addN 65536 16 (cutN 4294967296 n) + addN 256 8 (cutN 65536 (cutN 4294967296 n)) + bitsN (cutN 256 (cutN 65536 (cutN 4294967296 n))) =
    addN 4294967296 32 n + (addN 65536 16 (cutN 4294967296 n) + (addN 256 8 (cutN 65536 (cutN 4294967296 n)) + bitsN (cutN 256 (cutN 65536 (cutN 4294967296 n))))) by omega]
  exact k0
def l10 (L : Nat) : Nat := L * 78913 / 262144
def ndS (n : Nat) : Nat := l10 (lenN n) + if 10 ^ l10 (lenN n) ≤ n then 1 else 0
theorem l10_ok : ∀ L, L < 65 → 1 ≤ L → 2 ^ L ≤ 10 ^ (l10 L + 1) ∧ (l10 L = 0 ∨ 10 ^ (l10 L - 1) ≤ 2 ^ (L - 1)) ∧ l10 L ≤ 19 := by decide +kernel
theorem lenN_le64 {n : Nat} (h0 : 0 < n) (h : n < 2 ^ 64) : 1 ≤ lenN n ∧ lenN n < 65 := by
  obtain ⟨h1, h2, _⟩ := isLen_lenN h0 h
  refine ⟨h1, ?_⟩
  by_cases hc : lenN n < 65
  · exact hc
  · have : 2 ^ 64 ≤ 2 ^ (lenN n - 1) := Nat.pow_le_pow_right (by omega) (by omega)
    omega
theorem ndS_ok {n : Nat} (h0 : 0 < n) (h : n < 2 ^ 64) : 1 ≤ ndS n ∧ 10 ^ (ndS n - 1) ≤ n ∧ n < 10 ^ ndS n := by
  obtain ⟨h1, h2, h3⟩ := isLen_lenN h0 h
  obtain ⟨a1, a2⟩ := lenN_le64 h0 h
  obtain ⟨k1, k2, _⟩ := l10_ok _ a2 a1
  rw [ndS]
  generalize l10 (lenN n) = k at *
  split
  · exact ⟨by omega, by rw [Nat.add_sub_cancel]; assumption, by omega⟩
  · rename_i hc
    rcases k2 with e | e
    · subst e; simp at hc; omega
    · have hk : 1 ≤ k := by
        by_cases e : k = 0
        · subst e; simp at hc; omega
        · omega
      rw [Nat.add_zero]
      exact ⟨hk, by omega, by omega⟩
def padL : Nat → Nat → List UInt8
  | 0, _ => []
  | k + 1, u => padL k (u / 10) ++ [UInt8.ofNat (48 + u % 10)]
theorem padL_len : ∀ k u, (padL k u).length = k
  | 0, _ => rfl
  | k + 1, u => by rw [padL, List.length_append, padL_len k]; rfl
theorem padL_add : ∀ (b a u : Nat), padL (a + b) u = padL a (u / 10 ^ b) ++ padL b u
  | 0, a, u => by simp [padL]
  | b + 1, a, u => by
    rw [← Nat.add_assoc, padL, padL, padL_add b a (u / 10), List.append_assoc, Nat.div_div_eq_div_mul, Nat.pow_succ, Nat.mul_comm 10]
theorem dgL_pad : ∀ (k u : Nat), 10 ^ k ≤ u ∨ k = 0 → u < 10 ^ (k + 1) → dgL u = padL (k + 1) u
  | 0, u, _, h => by rw [dgL_small (by omega)]; show _ = [] ++ [_]; rw [List.nil_append, Nat.mod_eq_of_lt (by omega)]
  | k + 1, u, h, h2 => by
    have h : 10 ^ (k + 1) ≤ u := by rcases h with h | h; exact h; omega
    have hp : 10 ≤ 10 ^ (k + 1) := Nat.le_self_pow (by omega) 10
    rw [dgL_big (by omega), padL, dgL_pad k (u / 10) (.inl ((Nat.le_div_iff_mul_le (by omega)).2 (by rw [← Nat.pow_succ]; exact h))) ((Nat.div_lt_iff_lt_mul (by omega)).2 (by rw [← Nat.pow_succ]; exact h2))]
theorem dgL_nd {u : Nat} (h0 : 0 < u) (h : u < 2 ^ 64) : dgL u = padL (ndS u) u := by
  obtain ⟨h1, h2, h3⟩ := ndS_ok h0 h
  obtain ⟨k, hk⟩ : ∃ k, ndS u = k + 1 := ⟨ndS u - 1, by omega⟩
  rw [hk] at h2 h3 ⊢
  exact dgL_pad k u (.inl h2) h3

def sm2 (k : Nat) : List UInt8 := [UInt8.ofNat (48 + k / 10), UInt8.ofNat (48 + k % 10)]
theorem pad2 (u : Nat) : padL 2 u = sm2 (u % 100) := by
  simp only [padL, List.nil_append, List.cons_append, sm2]
  rw [show u / 10 % 10 = u % 100 / 10 by omega, show u % 10 = u % 100 % 10 by omega]
theorem pad4 (u : Nat) : padL 4 u = sm2 (u / 100 % 100) ++ sm2 (u % 100) := by
  rw [show (4 : Nat) = 2 + 2 from rfl, padL_add, pad2, pad2]
theorem pad8 (u : Nat) : padL 8 u = sm2 (u / 1000000 % 100) ++ (sm2 (u / 10000 % 100) ++ (sm2 (u / 100 % 100) ++ sm2 (u % 100))) := by
  rw [show (8 : Nat) = 4 + 4 from rfl, padL_add, pad4, pad4, List.append_assoc]
  rw [show u / 10 ^ 4 / 100 = u / 1000000 by omega]

end Tab

/- Numbers as texts: the small parts. -/
namespace Tab
open Go Go.Proofs
set_option maxRecDepth 10000
set_option linter.unusedVariables false
set_option linter.unusedSimpArgs false
set_option linter.unusedSectionVars false
set_option maxHeartbeats 1000000

def smB : List UInt8 := (List.range 100).flatMap sm2
theorem smB_at {j : Nat} (h : j < 100) : smB[2 * j]? = some (UInt8.ofNat (48 + j / 10)) ∧ smB[2 * j + 1]? = some (UInt8.ofNat (48 + j % 10)) := by
  have k : (List.range 100).all (fun j => decide (smB[2 * j]? = some (UInt8.ofNat (48 + j / 10)) ∧ smB[2 * j + 1]? = some (UInt8.ofNat (48 + j % 10)))) = true := by kernel_rfl
  have := List.all_eq_true.1 k j (List.mem_range.2 h)
  simpa only [decide_eq_true_eq] using this
theorem smB_cut {j : Nat} (h : j < 100) : (smB.drop (2 * j)).take 2 = sm2 j := by
  have k : (List.range 100).all (fun j => decide ((smB.drop (2 * j)).take 2 = sm2 j)) = true := by kernel_rfl
  have := List.all_eq_true.1 k j (List.mem_range.2 h)
  simpa only [decide_eq_true_eq] using this
def dgB : List UInt8 := [48, 49, 50, 51, 52, 53, 54, 55, 56, 57, 97, 98, 99, 100, 101, 102, 103, 104, 105, 106, 107, 108, 109, 110, 111, 112, 113, 114, 115, 116, 117, 118, 119, 120, 121, 122]
theorem dgB_cut {j : Nat} (h : j < 10) : (dgB.drop j).take 1 = [UInt8.ofNat (48 + j)] := by
  have k : (List.range 10).all (fun j => decide ((dgB.drop j).take 1 = [UInt8.ofNat (48 + j)])) = true := by kernel_rfl
  have := List.all_eq_true.1 k j (List.mem_range.2 h)
  simpa only [decide_eq_true_eq] using this

theorem fmt_small (n : Nat) (h : n < 100) : Pure Tryd.prog 105 [.int .i64 n] (.str (dgL n)) := by
  refine Pure.of_sw 15 Tryd.func105 rfl Tryd.ntmps105 (by kernel_rfl) (Nat.le_of_ble_eq_true (by kernel_rfl)) (by simp [closeds, AV.closed, aSs_closed, aIs_closed, aBs_closed, aRs_closed, aDen_closed]) (by simp [AV.closed, closeds, aSs_closed, aIs_closed, aBs_closed, aRs_closed, aDen_closed]) ?_; refine SW.of_vc ?_
  repeat first | refine opsStep ?_ | refine codeStep ?_ | refine drawStep ?_
  refine decB_dec (fun c => ?_) (fun c => ?_)
  · have c : (n : Int) < 10 := c
    have e1 : IntKind.wrap .i64 ((n : Int) + 1) = ((n + 1 : Nat) : Int) := by rw [IntWalk.i64_in _ (by omega)]; simp
    repeat first | refine opsStep ?_ | refine codeStep ?_ | refine drawStep ?_
    refine guardE_of (by show (0 : Int) ≤ n ∧ (n : Int) ≤ IntKind.wrap .i64 ((n : Int) + 1) ∧ IntKind.wrap .i64 ((n : Int) + 1) ≤ (36 : Nat); rw [e1]; omega) ?_
    repeat first | refine opsStep ?_ | refine codeStep ?_ | refine drawStep ?_
    exact finV (v' := .str ((dgB.drop (n : Int).toNat).take ((IntKind.wrap .i64 ((n : Int) + 1)).toNat - (n : Int).toNat))) (by kernel_rfl) (by rw [e1, Int.toNat_natCast, Int.toNat_natCast, show n + 1 - n = 1 by omega, dgB_cut (by omega), dgL_small (by omega)])
  · have c : ¬ (n : Int) < 10 := c
    have e1 : IntKind.wrap .i64 ((n : Int) * 2) = ((2 * n : Nat) : Int) := by rw [IntWalk.i64_in _ (by omega)]; simp; omega
    have e2 : IntKind.wrap .i64 (IntKind.wrap .i64 ((n : Int) * 2) + 2) = ((2 * n + 2 : Nat) : Int) := by rw [e1, IntWalk.i64_in _ (by omega)]; simp
    repeat first | refine opsStep ?_ | refine codeStep ?_ | refine drawStep ?_
    refine guardE_of (by show (0 : Int) ≤ IntKind.wrap .i64 ((n : Int) * 2) ∧ IntKind.wrap .i64 ((n : Int) * 2) ≤ IntKind.wrap .i64 (IntKind.wrap .i64 ((n : Int) * 2) + 2) ∧ IntKind.wrap .i64 (IntKind.wrap .i64 ((n : Int) * 2) + 2) ≤ (200 : Nat); rw [e2, e1]; omega) ?_
    repeat first | refine opsStep ?_ | refine codeStep ?_ | refine drawStep ?_
    exact finV (v' := .str ((smB.drop (IntKind.wrap .i64 ((n : Int) * 2)).toNat).take ((IntKind.wrap .i64 (IntKind.wrap .i64 ((n : Int) * 2) + 2)).toNat - (IntKind.wrap .i64 ((n : Int) * 2)).toNat))) (by kernel_rfl) (by
      rw [e2, e1, Int.toNat_natCast, Int.toNat_natCast, show 2 * n + 2 - 2 * n = 2 by omega, smB_cut h, dgL_big (by omega), dgL_small (by omega)]; rfl)

theorem fmt_log (L : Nat) (h : L ≤ 64) : Pure Tryd.prog 126 [.int .i64 L] (.int .i64 (l10 L : Nat)) := by
  have e1 : IntKind.wrap .i64 ((L : Int) * 78913) = ((L * 78913 : Nat) : Int) := by rw [IntWalk.i64_in _ (by omega)]; simp
  refine Pure.of_sw 6 Tryd.func126 rfl Tryd.ntmps126 (by kernel_rfl) (Nat.le_of_ble_eq_true (by kernel_rfl)) (by simp [closeds, AV.closed, aSs_closed, aIs_closed, aBs_closed, aRs_closed, aDen_closed]) (by simp [AV.closed, closeds, aSs_closed, aIs_closed, aBs_closed, aRs_closed, aDen_closed]) ?_; refine SW.of_vc ?_
  repeat first | refine opsStep ?_ | refine codeStep ?_ | refine drawStep ?_
  refine finV (v' := .int .i64 ((IntKind.wrap .i64 ((L : Int) * 78913)).fdiv (2 ^ (min ((18 : Nat) : Int).toNat 64)))) (by kernel_rfl) ?_
  rw [e1, shr_nat _ 18 (by omega)]
  rfl
theorem fmt_bool2 (b : Bool) : Pure Tryd.prog 128 [.bool b] (.int .i64 (if b then 1 else 0)) := by
  refine Pure.of_sw 4 Tryd.func128 rfl Tryd.ntmps128 (by kernel_rfl) (Nat.le_of_ble_eq_true (by kernel_rfl)) (by simp [closeds, AV.closed, aSs_closed, aIs_closed, aBs_closed, aRs_closed, aDen_closed]) (by simp [AV.closed, closeds, aSs_closed, aIs_closed, aBs_closed, aRs_closed, aDen_closed]) ?_; refine SW.of_vc ?_
  repeat first | refine opsStep ?_ | refine codeStep ?_ | refine drawStep ?_
  refine decB_split (fun h => ?_) (fun h => ?_)
  · repeat first | refine opsStep ?_ | refine codeStep ?_ | refine drawStep ?_
    exact finV (v' := .int .i64 1) (by kernel_rfl) (by rw [h]; rfl)
  · repeat first | refine opsStep ?_ | refine codeStep ?_ | refine drawStep ?_
    exact finV (v' := .int .i64 0) (by kernel_rfl) (by rw [h]; rfl)
theorem pow_at {k : Nat} (h : k < 20) : (powA.drop ((k : Int).toNat * 1))[0]? = some (.int .u64 ((10 ^ k : Nat) : Int)) := by
  rw [Int.toNat_natCast, Nat.mul_one, powA, powZ, List.map_map, List.getElem?_drop, Nat.add_zero, List.getElem?_map, List.getElem?_range h]
  rfl
theorem fmt_nd (u : Nat) (h0 : 0 < u) (h : u < 2^64) : Pure Tryd.prog 106 [.int .u64 u] (.int .i64 (ndS u : Nat)) := by
  obtain ⟨a1, a2⟩ := lenN_le64 h0 h
  obtain ⟨_, _, k3⟩ := l10_ok _ a2 a1
  refine Pure.of_sw 15 Tryd.func106 rfl Tryd.ntmps106 (by kernel_rfl) (Nat.le_of_ble_eq_true (by kernel_rfl)) (by simp [closeds, AV.closed, aSs_closed, aIs_closed, aBs_closed, aRs_closed, aDen_closed]) (by simp [AV.closed, closeds, aSs_closed, aIs_closed, aBs_closed, aRs_closed, aDen_closed]) ?_; refine SW.of_vc ?_
  repeat first | refine opsStep ?_ | refine codeStep ?_ | refine drawStep ?_
  refine callP (Len64_val u h) ?_
  repeat first | refine opsStep ?_ | refine codeStep ?_ | refine drawStep ?_
  refine callP (fmt_log (lenN u) (by omega)) ?_
  repeat first | refine opsStep ?_ | refine codeStep ?_ | refine drawStep ?_
  refine guardE_of ⟨by omega, by show ((l10 (lenN u) : Nat) : Int) < 20; omega⟩ ?_
  repeat first | refine opsStep ?_ | refine codeStep ?_ | refine drawStep ?_
  refine optE_of (c := .int .u64 ((10 ^ l10 (lenN u) : Nat) : Int)) (pow_at (by omega)) ?_
  repeat first | refine opsStep ?_ | refine codeStep ?_ | refine drawStep ?_
  refine callP (fmt_bool2 _) ?_
  repeat first | refine opsStep ?_ | refine codeStep ?_ | refine drawStep ?_
  refine finV (v' := .int .i64 (IntKind.wrap .i64 (((l10 (lenN u) : Nat) : Int) + (if decide ((u : Int) ≥ ((10 ^ l10 (lenN u) : Nat) : Int)) then 1 else 0)))) (by kernel_rfl) ?_
  rw [ndS]
  by_cases hc : 10 ^ l10 (lenN u) ≤ u
  · rw [if_pos hc, if_pos (by rw [decide_eq_true_eq]; exact Int.ofNat_le.2 hc), IntWalk.i64_in _ (by omega)]
    rfl
  · rw [if_neg hc, if_neg (by rw [decide_eq_true_eq]; exact fun k => hc (Int.ofNat_le.1 k)), IntWalk.i64_in _ (by omega)]
    rfl

end Tab

/- A number's digits are laid down. -/
namespace Tab
open Go Go.Proofs
set_option maxRecDepth 10000
set_option linter.unusedVariables false
set_option linter.unusedSimpArgs false
set_option linter.unusedSectionVars false
set_option maxHeartbeats 2000000

theorem tmN (a b : Nat) : ((a : Nat) : Int).tmod ((b : Nat) : Int) = ((a % b : Nat) : Int) := (Int.ofNat_tmod a b).symm
theorem tdN (a b : Nat) : ((a : Nat) : Int).tdiv ((b : Nat) : Int) = ((a / b : Nat) : Int) := (Int.ofNat_tdiv a b).symm
theorem w32 {n : Nat} (h : n < 4294967296) : IntKind.wrap .u32 ((n : Nat) : Int) = n := IntWalk.u32_in _ (by omega)
theorem w64 {n : Nat} (h : n < 18446744073709551616) : IntKind.wrap .u64 ((n : Nat) : Int) = n := IntWalk.u64_in _ (by omega)
theorem m2 (n : Nat) : ((n : Nat) : Int) * 2 = ((2 * n : Nat) : Int) := by push_cast; omega

def bytA (l : List UInt8) : List AV := l.map fun c => .int .u8 c.toNat
def celF (hd : List AV) (dg : List UInt8) (rest : List AV) : List AV := hd ++ bytA dg ++ rest
theorem bytA_app (a b : List UInt8) : bytA (a ++ b) = bytA a ++ bytA b := by simp [bytA]
theorem celF_len (hd dg rest) : (celF hd dg rest).length = hd.length + dg.length + rest.length := by simp [celF, bytA]; omega
theorem put2 {hd : List AV} {dg : List UInt8} {rest : List AV} {n k : Nat} (h : hd.length = n + 2) :
    over (over (celF hd dg rest) (n + 1) [.int .u8 (UInt8.ofNat (48 + k % 10)).toNat]) n [.int .u8 (UInt8.ofNat (48 + k / 10)).toNat] = celF (hd.take n) (sm2 k ++ dg) rest := by
  have hl := celF_len hd dg rest
  rw [over_one (cs := celF hd dg rest) (i := n + 1) (by omega), over_one (by rw [List.length_set]; omega)]
  have e : hd = hd.take n ++ [hd[n]'(by omega), hd[n + 1]'(by omega)] := by
    conv => lhs; rw [← List.take_append_drop n hd, List.drop_eq_getElem_cons (show n < hd.length by omega), List.drop_eq_getElem_cons (show n + 1 < hd.length by omega), List.drop_of_length_le (by omega)]
  have hn : (hd.take n).length = n := by rw [List.length_take]; omega
  generalize hd.take n = a at *
  generalize hd[n]'(by omega) = x at *
  generalize hd[n + 1]'(by omega) = y at *
  subst e
  subst hn
  rw [celF, celF, bytA_app]
  simp [List.append_assoc, List.set_append, bytA, sm2]
theorem put1 {x : AV} {dg : List UInt8} {rest : List AV} {c0 : AV} {k : Nat} : over (celF [c0, x] dg rest) 1 [.int .u8 (UInt8.ofNat (48 + k)).toNat] = celF [c0] (UInt8.ofNat (48 + k) :: dg) rest := by
  rw [over_one (by rw [celF_len]; simp; omega)]
  simp [celF, bytA]

theorem subN {n a : Nat} (h : a ≤ n) (hn : n ≤ 30) : IntKind.wrap .i64 ((n : Int) - (a : Int)) = ((n - a : Nat) : Int) := by rw [IntWalk.i64_in _ (by omega)]; omega
theorem inc32 {j : Nat} (h : j < 100) : IntKind.wrap .u32 (((2 * j : Nat) : Int) + 1) = ((2 * j + 1 : Nat) : Int) := by rw [IntWalk.u32_in _ (by omega)]; simp
theorem over_lenI {cs : List AV} {i : Nat} {x : AV} (h : i < cs.length) : (over cs i [x]).length = cs.length := by rw [over_one h, List.length_set]
theorem fmt10 (u nd : Nat) (hd rest : List AV) (h1 : 1 ≤ nd) (h2 : nd ≤ 20) (hu : u < 10 ^ nd) (hu2 : u < 2^64) (hhd : hd.length = nd + 1) : ACall Tryd.prog 107 [.hs 0 0 1 nd 1, .int .u64 u] [.cells 0 (hd ++ rest)] fun o H' => o = .ret (.tup []) ∧ H' = [.cells 0 (celF (hd.take 1) (padL nd u) rest)] := by
  refine ACall.of_sw 167 Tryd.func107 rfl Tryd.ntmps107 (by kernel_rfl) (Nat.le_of_ble_eq_true (by kernel_rfl)) ?_; refine SW.of_vc ?_
  repeat first | refine opsStep ?_ | refine codeStep ?_ | refine drawStep ?_
  refine loopE_of (ι := {x : Nat × Nat × List UInt8 // x.1 ≤ nd ∧ padL nd u = padL x.1 x.2.1 ++ x.2.2 ∧ x.2.1 < 10 ^ x.1 ∧ x.2.1 < 2^64 ∧ x.2.2.length = nd - x.1}) (fun x => (fr [(0, .hs 0 0 1 nd 1), (1, .int .u64 x.1.2.1), (4, .int .i64 x.1.1)], [.cells 0 (celF (hd.take (x.1.1 + 1)) x.1.2.2 rest)])) (fun x => x.1.1)
    ⟨(nd, u, []), Nat.le_refl _, by simp, hu, hu2, by simp⟩ (Ent.fr' ⟨(by kernel_rfl), (by kernel_rfl), (by kernel_rfl), trivial⟩ (Eq.trans (b := [.cells 0 (hd ++ rest)]) (by kernel_rfl) (by simp only [celF, bytA, List.map_nil, List.append_nil]; rw [List.take_of_length_le (by omega)]))) ?_
  rintro ⟨⟨n, v, dg⟩, k1, k2, k3, k4, k5⟩
  simp only at k1 k2 k3 k4 k5
  repeat first | refine opsStep ?_ | refine codeStep ?_ | refine drawStep ?_
  refine decB_dec (fun c => ?_) (fun c => ?_)
  · have c : (n : Int) ≥ 8 := c
    have t1 : (hd.take (n + 1)).length = n + 1 := by rw [List.length_take]; omega
    have t2 : (hd.take (n - 1)).length = n - 1 := by rw [List.length_take]; omega
    have t3 : (hd.take (n - 3)).length = n - 3 := by rw [List.length_take]; omega
    have t4 : (hd.take (n - 5)).length = n - 5 := by rw [List.length_take]; omega
    have X : IntKind.wrap .u32 ((v : Int).tmod 100000000) = ((v % 100000000 : Nat) : Int) := by rw [show (100000000 : Int) = ((100000000 : Nat) : Int) from rfl, tmN, w32 (by omega)]
    have V : IntKind.wrap .u64 ((v : Int).tdiv 100000000) = ((v / 100000000 : Nat) : Int) := by rw [show (100000000 : Int) = ((100000000 : Nat) : Int) from rfl, tdN, w64 (by omega)]
    generalize hy : v % 100000000 = y at X
    have hy1 : y < 100000000 := by omega
    have x32 : IntKind.wrap .u32 ((y : Int).tdiv 10000) = ((y / 10000 : Nat) : Int) := by rw [show (10000 : Int) = ((10000 : Nat) : Int) from rfl, tdN, w32 (by omega)]
    have x10 : (y : Int).tmod 10000 = ((y % 10000 : Nat) : Int) := by rw [show (10000 : Int) = ((10000 : Nat) : Int) from rfl, tmN]
    have dv : ∀ z : Nat, z < 10000 → IntKind.wrap .u32 (IntKind.wrap .u32 ((z : Int).tdiv 100) * 2) = ((2 * (z / 100) : Nat) : Int) := fun z hz => by
      rw [show (100 : Int) = ((100 : Nat) : Int) from rfl, tdN, w32 (by omega), m2, w32 (by omega)]
    have mv : ∀ z : Nat, z < 10000 → IntKind.wrap .u32 ((z : Int).tmod 100 * 2) = ((2 * (z % 100) : Nat) : Int) := fun z hz => by
      rw [show (100 : Int) = ((100 : Nat) : Int) from rfl, tmN, m2, w32 (by omega)]
    have h0 : (IntKind.wrap .u32 (((((IntKind.wrap .u32 ((v : Int).tmod 100000000))).tmod 10000)).tmod 100 * 2)) = ((2 * (y % 10000 % 100) : Nat) : Int) := by rw [X, x10, mv _ (by omega)]
    have h1' : (IntKind.wrap .u32 (IntKind.wrap .u32 (((((IntKind.wrap .u32 ((v : Int).tmod 100000000))).tmod 10000)).tdiv 100) * 2)) = ((2 * (y % 10000 / 100) : Nat) : Int) := by rw [X, x10, dv _ (by omega)]
    have h2' : (IntKind.wrap .u32 (((IntKind.wrap .u32 (((IntKind.wrap .u32 ((v : Int).tmod 100000000))).tdiv 10000))).tmod 100 * 2)) = ((2 * (y / 10000 % 100) : Nat) : Int) := by rw [X, x32, mv _ (by omega)]
    have h3' : (IntKind.wrap .u32 (IntKind.wrap .u32 (((IntKind.wrap .u32 (((IntKind.wrap .u32 ((v : Int).tmod 100000000))).tdiv 10000))).tdiv 100) * 2)) = ((2 * (y / 10000 / 100) : Nat) : Int) := by rw [X, x32, dv _ (by omega)]
    repeat first | refine opsStep ?_ | refine codeStep ?_ | refine drawStep ?_
    refine SW.drawn rfl (by kernel_rfl) ?_
    repeat first | refine opsStep ?_ | refine codeStep ?_ | refine drawStep ?_
    refine guardE_of (by show (0 : Int) ≤ IntKind.wrap .u32 ((IntKind.wrap .u32 (((((IntKind.wrap .u32 ((v : Int).tmod 100000000))).tmod 10000)).tmod 100 * 2)) + 1); rw [h0, inc32 (by omega)]; omega) ?_
    refine optE_of (c := UInt8.ofNat (48 + (y % 10000 % 100) % 10)) (Eq.trans (b := smB[(IntKind.wrap .u32 ((IntKind.wrap .u32 (((((IntKind.wrap .u32 ((v : Int).tmod 100000000))).tmod 10000)).tmod 100 * 2)) + 1)).toNat]?) (by kernel_rfl) (by rw [h0, inc32 (by omega), Int.toNat_natCast]; exact (smB_at (by omega)).2)) ?_
    repeat first | refine opsStep ?_ | refine codeStep ?_ | refine drawStep ?_
    refine guardE_of (by show (0 : Int) ≤ (IntKind.wrap .u32 (((((IntKind.wrap .u32 ((v : Int).tmod 100000000))).tmod 10000)).tmod 100 * 2)); rw [h0]; omega) ?_
    refine optE_of (c := UInt8.ofNat (48 + (y % 10000 % 100) / 10)) (Eq.trans (b := smB[((IntKind.wrap .u32 (((((IntKind.wrap .u32 ((v : Int).tmod 100000000))).tmod 10000)).tmod 100 * 2))).toNat]?) (by kernel_rfl) (by rw [h0, Int.toNat_natCast]; exact (smB_at (by omega)).1)) ?_
    repeat first | refine opsStep ?_ | refine codeStep ?_ | refine drawStep ?_
    refine guardE_of (by show (0 : Int) ≤ IntKind.wrap .i64 ((n : Int) - ((1 : Nat) : Int)) ∧ IntKind.wrap .i64 ((n : Int) - ((1 : Nat) : Int)) < (nd : Int); rw [subN (by omega) (by omega)]; omega) ?_
    repeat first | refine opsStep ?_ | refine codeStep ?_ | refine drawStep ?_
    refine guardE_of ⟨rfl, by decide, by show 1 + (IntKind.wrap .i64 ((n : Int) - ((1 : Nat) : Int))).toNat * 1 + 1 ≤ (celF (hd.take (n + 1)) dg rest).length; rw [subN (by omega) (by omega), Int.toNat_natCast, celF_len, t1]; omega⟩ ?_
    repeat first | refine opsStep ?_ | refine codeStep ?_ | refine drawStep ?_
    refine guardE_of (by show (0 : Int) ≤ IntKind.wrap .i64 ((n : Int) - ((2 : Nat) : Int)) ∧ IntKind.wrap .i64 ((n : Int) - ((2 : Nat) : Int)) < (nd : Int); rw [subN (by omega) (by omega)]; omega) ?_
    repeat first | refine opsStep ?_ | refine codeStep ?_ | refine drawStep ?_
    refine guardE_of ⟨rfl, by decide, by show 1 + (IntKind.wrap .i64 ((n : Int) - ((2 : Nat) : Int))).toNat * 1 + 1 ≤ (over (celF (hd.take (n + 1)) dg rest) (1 + (IntKind.wrap .i64 ((n : Int) - ((1 : Nat) : Int))).toNat * 1) [.int .u8 (UInt8.ofNat (48 + (y % 10000 % 100) % 10)).toNat]).length; rw [subN (by omega) (by omega), subN (by omega) (by omega), Int.toNat_natCast, Int.toNat_natCast, over_lenI (by rw [celF_len, t1]; omega), celF_len, t1]; omega⟩ ?_
    repeat first | refine opsStep ?_ | refine codeStep ?_ | refine drawStep ?_
    refine ⟨by kernel_rfl, ?_⟩
    refine VCode.ent (Ent.fr' (l := [(0, .hs 0 0 1 nd 1), (1, .int .u64 (v / 100000000 : Nat)), (4, .int .i64 n), (8, .int .u32 (2 * (y % 10000 / 100) : Nat)), (10, .int .u32 (2 * (y / 10000 / 100) : Nat)), (11, .int .u32 (2 * (y / 10000 % 100) : Nat))]) (H' := [.cells 0 (celF (hd.take (1 + (n - 2))) (sm2 ((y % 10000 % 100)) ++ dg) rest)]) ⟨(by kernel_rfl), congrArg (AV.int .u64) V, (by kernel_rfl), congrArg (AV.int .u32) h1', congrArg (AV.int .u32) h3', congrArg (AV.int .u32) h2', trivial⟩ (Eq.trans (b := [.cells 0 (over (over (celF (hd.take (n + 1)) dg rest) (1 + (IntKind.wrap .i64 ((n : Int) - ((1 : Nat) : Int))).toNat * 1) [.int .u8 (UInt8.ofNat (48 + (y % 10000 % 100) % 10)).toNat]) (1 + (IntKind.wrap .i64 ((n : Int) - ((2 : Nat) : Int))).toNat * 1) [.int .u8 (UInt8.ofNat (48 + (y % 10000 % 100) / 10)).toNat])]) (by kernel_rfl) (by
      rw [subN (by omega) (by omega), subN (by omega) (by omega), Int.toNat_natCast, Int.toNat_natCast, show 1 + (n - 1) * 1 = (1 + (n - 2)) + 1 by omega, show 1 + (n - 2) * 1 = 1 + (n - 2) by omega, put2 (by rw [t1]; omega), List.take_take, Nat.min_eq_left (by omega)]))) ?_
    have s2 : (hd.take (1 + (n - 2))).length = 1 + (n - 2) := by rw [List.length_take]; omega
    have s4 : (hd.take (1 + (n - 4))).length = 1 + (n - 4) := by rw [List.length_take]; omega
    have s6 : (hd.take (1 + (n - 6))).length = 1 + (n - 6) := by rw [List.length_take]; omega
    clear h0 h1' h2' h3' X V x32 x10 dv mv
    repeat first | refine opsStep ?_ | refine codeStep ?_ | refine drawStep ?_
    refine SW.drawn rfl (by kernel_rfl) ?_
    repeat first | refine opsStep ?_ | refine codeStep ?_ | refine drawStep ?_
    refine guardE_of (by show (0 : Int) ≤ IntKind.wrap .u32 (((2 * (y % 10000 / 100) : Nat) : Int) + 1); rw [(rfl : ((2 * (y % 10000 / 100) : Nat) : Int) = ((2 * (y % 10000 / 100) : Nat) : Int)), inc32 (by omega)]; omega) ?_
    refine optE_of (c := UInt8.ofNat (48 + (y % 10000 / 100) % 10)) (Eq.trans (b := smB[(IntKind.wrap .u32 (((2 * (y % 10000 / 100) : Nat) : Int) + 1)).toNat]?) (by kernel_rfl) (by rw [(rfl : ((2 * (y % 10000 / 100) : Nat) : Int) = ((2 * (y % 10000 / 100) : Nat) : Int)), inc32 (by omega), Int.toNat_natCast]; exact (smB_at (by omega)).2)) ?_
    repeat first | refine opsStep ?_ | refine codeStep ?_ | refine drawStep ?_
    refine guardE_of (by show (0 : Int) ≤ ((2 * (y % 10000 / 100) : Nat) : Int); rw [(rfl : ((2 * (y % 10000 / 100) : Nat) : Int) = ((2 * (y % 10000 / 100) : Nat) : Int))]; omega) ?_
    refine optE_of (c := UInt8.ofNat (48 + (y % 10000 / 100) / 10)) (Eq.trans (b := smB[(((2 * (y % 10000 / 100) : Nat) : Int)).toNat]?) (by kernel_rfl) (by rw [(rfl : ((2 * (y % 10000 / 100) : Nat) : Int) = ((2 * (y % 10000 / 100) : Nat) : Int)), Int.toNat_natCast]; exact (smB_at (by omega)).1)) ?_
    repeat first | refine opsStep ?_ | refine codeStep ?_ | refine drawStep ?_
    refine guardE_of (by show (0 : Int) ≤ IntKind.wrap .i64 ((n : Int) - ((3 : Nat) : Int)) ∧ IntKind.wrap .i64 ((n : Int) - ((3 : Nat) : Int)) < (nd : Int); rw [subN (by omega) (by omega)]; omega) ?_
    repeat first | refine opsStep ?_ | refine codeStep ?_ | refine drawStep ?_
    refine guardE_of ⟨rfl, by decide, by show 1 + (IntKind.wrap .i64 ((n : Int) - ((3 : Nat) : Int))).toNat * 1 + 1 ≤ (celF (hd.take (1 + (n - 2))) (sm2 (y % 10000 % 100) ++ dg) rest).length; rw [subN (by omega) (by omega), Int.toNat_natCast, celF_len, s2]; omega⟩ ?_
    repeat first | refine opsStep ?_ | refine codeStep ?_ | refine drawStep ?_
    refine guardE_of (by show (0 : Int) ≤ IntKind.wrap .i64 ((n : Int) - ((4 : Nat) : Int)) ∧ IntKind.wrap .i64 ((n : Int) - ((4 : Nat) : Int)) < (nd : Int); rw [subN (by omega) (by omega)]; omega) ?_
    repeat first | refine opsStep ?_ | refine codeStep ?_ | refine drawStep ?_
    refine guardE_of ⟨rfl, by decide, by show 1 + (IntKind.wrap .i64 ((n : Int) - ((4 : Nat) : Int))).toNat * 1 + 1 ≤ (over (celF (hd.take (1 + (n - 2))) (sm2 (y % 10000 % 100) ++ dg) rest) (1 + (IntKind.wrap .i64 ((n : Int) - ((3 : Nat) : Int))).toNat * 1) [.int .u8 (UInt8.ofNat (48 + (y % 10000 / 100) % 10)).toNat]).length; rw [subN (by omega) (by omega), subN (by omega) (by omega), Int.toNat_natCast, Int.toNat_natCast, over_lenI (by rw [celF_len, s2]; omega), celF_len, s2]; omega⟩ ?_
    repeat first | refine opsStep ?_ | refine codeStep ?_ | refine drawStep ?_
    refine ⟨by kernel_rfl, ?_⟩
    refine VCode.ent (Ent.fr' (l := [(0, .hs 0 0 1 nd 1), (1, .int .u64 (v / 100000000 : Nat)), (4, .int .i64 n), (10, .int .u32 (2 * (y / 10000 / 100) : Nat)), (11, .int .u32 (2 * (y / 10000 % 100) : Nat))]) (H' := [.cells 0 (celF (hd.take (1 + (n - 4))) (sm2 ((y % 10000 / 100)) ++ (sm2 (y % 10000 % 100) ++ dg)) rest)]) ⟨(by kernel_rfl), (by kernel_rfl), (by kernel_rfl), (by kernel_rfl), (by kernel_rfl), trivial⟩ (Eq.trans (b := [.cells 0 (over (over (celF (hd.take (1 + (n - 2))) (sm2 (y % 10000 % 100) ++ dg) rest) (1 + (IntKind.wrap .i64 ((n : Int) - ((3 : Nat) : Int))).toNat * 1) [.int .u8 (UInt8.ofNat (48 + (y % 10000 / 100) % 10)).toNat]) (1 + (IntKind.wrap .i64 ((n : Int) - ((4 : Nat) : Int))).toNat * 1) [.int .u8 (UInt8.ofNat (48 + (y % 10000 / 100) / 10)).toNat])]) (by kernel_rfl) (by
      rw [subN (by omega) (by omega), subN (by omega) (by omega), Int.toNat_natCast, Int.toNat_natCast, show 1 + (n - 3) * 1 = (1 + (n - 4)) + 1 by omega, show 1 + (n - 4) * 1 = 1 + (n - 4) by omega, put2 (by rw [s2]; omega), List.take_take, Nat.min_eq_left (by omega)]))) ?_
    repeat first | refine opsStep ?_ | refine codeStep ?_ | refine drawStep ?_
    refine SW.drawn rfl (by kernel_rfl) ?_
    repeat first | refine opsStep ?_ | refine codeStep ?_ | refine drawStep ?_
    refine guardE_of (by show (0 : Int) ≤ IntKind.wrap .u32 (((2 * (y / 10000 % 100) : Nat) : Int) + 1); rw [(rfl : ((2 * (y / 10000 % 100) : Nat) : Int) = ((2 * (y / 10000 % 100) : Nat) : Int)), inc32 (by omega)]; omega) ?_
    refine optE_of (c := UInt8.ofNat (48 + (y / 10000 % 100) % 10)) (Eq.trans (b := smB[(IntKind.wrap .u32 (((2 * (y / 10000 % 100) : Nat) : Int) + 1)).toNat]?) (by kernel_rfl) (by rw [(rfl : ((2 * (y / 10000 % 100) : Nat) : Int) = ((2 * (y / 10000 % 100) : Nat) : Int)), inc32 (by omega), Int.toNat_natCast]; exact (smB_at (by omega)).2)) ?_
    repeat first | refine opsStep ?_ | refine codeStep ?_ | refine drawStep ?_
    refine guardE_of (by show (0 : Int) ≤ ((2 * (y / 10000 % 100) : Nat) : Int); rw [(rfl : ((2 * (y / 10000 % 100) : Nat) : Int) = ((2 * (y / 10000 % 100) : Nat) : Int))]; omega) ?_
    refine optE_of (c := UInt8.ofNat (48 + (y / 10000 % 100) / 10)) (Eq.trans (b := smB[(((2 * (y / 10000 % 100) : Nat) : Int)).toNat]?) (by kernel_rfl) (by rw [(rfl : ((2 * (y / 10000 % 100) : Nat) : Int) = ((2 * (y / 10000 % 100) : Nat) : Int)), Int.toNat_natCast]; exact (smB_at (by omega)).1)) ?_
    repeat first | refine opsStep ?_ | refine codeStep ?_ | refine drawStep ?_
    refine guardE_of (by show (0 : Int) ≤ IntKind.wrap .i64 ((n : Int) - ((5 : Nat) : Int)) ∧ IntKind.wrap .i64 ((n : Int) - ((5 : Nat) : Int)) < (nd : Int); rw [subN (by omega) (by omega)]; omega) ?_
    repeat first | refine opsStep ?_ | refine codeStep ?_ | refine drawStep ?_
    refine guardE_of ⟨rfl, by decide, by show 1 + (IntKind.wrap .i64 ((n : Int) - ((5 : Nat) : Int))).toNat * 1 + 1 ≤ (celF (hd.take (1 + (n - 4))) (sm2 (y % 10000 / 100) ++ (sm2 (y % 10000 % 100) ++ dg)) rest).length; rw [subN (by omega) (by omega), Int.toNat_natCast, celF_len, s4]; omega⟩ ?_
    repeat first | refine opsStep ?_ | refine codeStep ?_ | refine drawStep ?_
    refine guardE_of (by show (0 : Int) ≤ IntKind.wrap .i64 ((n : Int) - ((6 : Nat) : Int)) ∧ IntKind.wrap .i64 ((n : Int) - ((6 : Nat) : Int)) < (nd : Int); rw [subN (by omega) (by omega)]; omega) ?_
    repeat first | refine opsStep ?_ | refine codeStep ?_ | refine drawStep ?_
    refine guardE_of ⟨rfl, by decide, by show 1 + (IntKind.wrap .i64 ((n : Int) - ((6 : Nat) : Int))).toNat * 1 + 1 ≤ (over (celF (hd.take (1 + (n - 4))) (sm2 (y % 10000 / 100) ++ (sm2 (y % 10000 % 100) ++ dg)) rest) (1 + (IntKind.wrap .i64 ((n : Int) - ((5 : Nat) : Int))).toNat * 1) [.int .u8 (UInt8.ofNat (48 + (y / 10000 % 100) % 10)).toNat]).length; rw [subN (by omega) (by omega), subN (by omega) (by omega), Int.toNat_natCast, Int.toNat_natCast, over_lenI (by rw [celF_len, s4]; omega), celF_len, s4]; omega⟩ ?_
    repeat first | refine opsStep ?_ | refine codeStep ?_ | refine drawStep ?_
    refine ⟨by kernel_rfl, ?_⟩
    refine VCode.ent (Ent.fr' (l := [(0, .hs 0 0 1 nd 1), (1, .int .u64 (v / 100000000 : Nat)), (4, .int .i64 n), (10, .int .u32 (2 * (y / 10000 / 100) : Nat))]) (H' := [.cells 0 (celF (hd.take (1 + (n - 6))) (sm2 ((y / 10000 % 100)) ++ (sm2 (y % 10000 / 100) ++ (sm2 (y % 10000 % 100) ++ dg))) rest)]) ⟨(by kernel_rfl), (by kernel_rfl), (by kernel_rfl), (by kernel_rfl), trivial⟩ (Eq.trans (b := [.cells 0 (over (over (celF (hd.take (1 + (n - 4))) (sm2 (y % 10000 / 100) ++ (sm2 (y % 10000 % 100) ++ dg)) rest) (1 + (IntKind.wrap .i64 ((n : Int) - ((5 : Nat) : Int))).toNat * 1) [.int .u8 (UInt8.ofNat (48 + (y / 10000 % 100) % 10)).toNat]) (1 + (IntKind.wrap .i64 ((n : Int) - ((6 : Nat) : Int))).toNat * 1) [.int .u8 (UInt8.ofNat (48 + (y / 10000 % 100) / 10)).toNat])]) (by kernel_rfl) (by
      rw [subN (by omega) (by omega), subN (by omega) (by omega), Int.toNat_natCast, Int.toNat_natCast, show 1 + (n - 5) * 1 = (1 + (n - 6)) + 1 by omega, show 1 + (n - 6) * 1 = 1 + (n - 6) by omega, put2 (by rw [s4]; omega), List.take_take, Nat.min_eq_left (by omega)]))) ?_
    repeat first | refine opsStep ?_ | refine codeStep ?_ | refine drawStep ?_
    refine SW.drawn rfl (by kernel_rfl) ?_
    repeat first | refine opsStep ?_ | refine codeStep ?_ | refine drawStep ?_
    refine guardE_of (by show (0 : Int) ≤ IntKind.wrap .u32 (((2 * (y / 10000 / 100) : Nat) : Int) + 1); rw [(rfl : ((2 * (y / 10000 / 100) : Nat) : Int) = ((2 * (y / 10000 / 100) : Nat) : Int)), inc32 (by omega)]; omega) ?_
    refine optE_of (c := UInt8.ofNat (48 + (y / 10000 / 100) % 10)) (Eq.trans (b := smB[(IntKind.wrap .u32 (((2 * (y / 10000 / 100) : Nat) : Int) + 1)).toNat]?) (by kernel_rfl) (by rw [(rfl : ((2 * (y / 10000 / 100) : Nat) : Int) = ((2 * (y / 10000 / 100) : Nat) : Int)), inc32 (by omega), Int.toNat_natCast]; exact (smB_at (by omega)).2)) ?_
    repeat first | refine opsStep ?_ | refine codeStep ?_ | refine drawStep ?_
    refine guardE_of (by show (0 : Int) ≤ ((2 * (y / 10000 / 100) : Nat) : Int); rw [(rfl : ((2 * (y / 10000 / 100) : Nat) : Int) = ((2 * (y / 10000 / 100) : Nat) : Int))]; omega) ?_
    refine optE_of (c := UInt8.ofNat (48 + (y / 10000 / 100) / 10)) (Eq.trans (b := smB[(((2 * (y / 10000 / 100) : Nat) : Int)).toNat]?) (by kernel_rfl) (by rw [(rfl : ((2 * (y / 10000 / 100) : Nat) : Int) = ((2 * (y / 10000 / 100) : Nat) : Int)), Int.toNat_natCast]; exact (smB_at (by omega)).1)) ?_
    repeat first | refine opsStep ?_ | refine codeStep ?_ | refine drawStep ?_
    refine guardE_of (by show (0 : Int) ≤ IntKind.wrap .i64 ((n : Int) - ((7 : Nat) : Int)) ∧ IntKind.wrap .i64 ((n : Int) - ((7 : Nat) : Int)) < (nd : Int); rw [subN (by omega) (by omega)]; omega) ?_
    repeat first | refine opsStep ?_ | refine codeStep ?_ | refine drawStep ?_
    refine guardE_of ⟨rfl, by decide, by show 1 + (IntKind.wrap .i64 ((n : Int) - ((7 : Nat) : Int))).toNat * 1 + 1 ≤ (celF (hd.take (1 + (n - 6))) (sm2 (y / 10000 % 100) ++ (sm2 (y % 10000 / 100) ++ (sm2 (y % 10000 % 100) ++ dg))) rest).length; rw [subN (by omega) (by omega), Int.toNat_natCast, celF_len, s6]; omega⟩ ?_
    repeat first | refine opsStep ?_ | refine codeStep ?_ | refine drawStep ?_
    refine guardE_of (by show (0 : Int) ≤ IntKind.wrap .i64 ((n : Int) - ((8 : Nat) : Int)) ∧ IntKind.wrap .i64 ((n : Int) - ((8 : Nat) : Int)) < (nd : Int); rw [subN (by omega) (by omega)]; omega) ?_
    repeat first | refine opsStep ?_ | refine codeStep ?_ | refine drawStep ?_
    refine guardE_of ⟨rfl, by decide, by show 1 + (IntKind.wrap .i64 ((n : Int) - ((8 : Nat) : Int))).toNat * 1 + 1 ≤ (over (celF (hd.take (1 + (n - 6))) (sm2 (y / 10000 % 100) ++ (sm2 (y % 10000 / 100) ++ (sm2 (y % 10000 % 100) ++ dg))) rest) (1 + (IntKind.wrap .i64 ((n : Int) - ((7 : Nat) : Int))).toNat * 1) [.int .u8 (UInt8.ofNat (48 + (y / 10000 / 100) % 10)).toNat]).length; rw [subN (by omega) (by omega), subN (by omega) (by omega), Int.toNat_natCast, Int.toNat_natCast, over_lenI (by rw [celF_len, s6]; omega), celF_len, s6]; omega⟩ ?_
    repeat first | refine opsStep ?_ | refine codeStep ?_ | refine drawStep ?_
    refine ⟨by kernel_rfl, ?_⟩
    refine VCode.ent (Ent.fr' (l := [(0, .hs 0 0 1 nd 1), (1, .int .u64 (v / 100000000 : Nat)), (4, .int .i64 n)]) (H' := [.cells 0 (celF (hd.take (1 + (n - 8))) (sm2 ((y / 10000 / 100)) ++ (sm2 (y / 10000 % 100) ++ (sm2 (y % 10000 / 100) ++ (sm2 (y % 10000 % 100) ++ dg)))) rest)]) ⟨(by kernel_rfl), (by kernel_rfl), (by kernel_rfl), trivial⟩ (Eq.trans (b := [.cells 0 (over (over (celF (hd.take (1 + (n - 6))) (sm2 (y / 10000 % 100) ++ (sm2 (y % 10000 / 100) ++ (sm2 (y % 10000 % 100) ++ dg))) rest) (1 + (IntKind.wrap .i64 ((n : Int) - ((7 : Nat) : Int))).toNat * 1) [.int .u8 (UInt8.ofNat (48 + (y / 10000 / 100) % 10)).toNat]) (1 + (IntKind.wrap .i64 ((n : Int) - ((8 : Nat) : Int))).toNat * 1) [.int .u8 (UInt8.ofNat (48 + (y / 10000 / 100) / 10)).toNat])]) (by kernel_rfl) (by
      rw [subN (by omega) (by omega), subN (by omega) (by omega), Int.toNat_natCast, Int.toNat_natCast, show 1 + (n - 7) * 1 = (1 + (n - 8)) + 1 by omega, show 1 + (n - 8) * 1 = 1 + (n - 8) by omega, put2 (by rw [s6]; omega), List.take_take, Nat.min_eq_left (by omega)]))) ?_
    repeat first | refine opsStep ?_ | refine codeStep ?_ | refine drawStep ?_
    refine ⟨⟨(n - 8, v / 100000000, sm2 (y / 10000 / 100) ++ (sm2 (y / 10000 % 100) ++ (sm2 (y % 10000 / 100) ++ (sm2 (y % 10000 % 100) ++ dg)))), by simp only; omega, ?_, ?_, by simp only; omega, by simp [sm2]; omega⟩, (by show n - 8 < n; omega), Ent.fr' ⟨(by kernel_rfl), (by kernel_rfl), Eq.trans (b := .int .i64 (IntKind.wrap .i64 ((n : Int) - ((8 : Nat) : Int)))) (by kernel_rfl) (by rw [subN (by omega) (by omega)]), trivial⟩ (Eq.trans (b := [.cells 0 (celF (hd.take (1 + (n - 8))) (sm2 (y / 10000 / 100) ++ (sm2 (y / 10000 % 100) ++ (sm2 (y % 10000 / 100) ++ (sm2 (y % 10000 % 100) ++ dg)))) rest)]) (by kernel_rfl) (by rw [Nat.add_comm 1]))⟩
    · simp only
      rw [k2]
      conv => lhs; rw [show n = (n - 8) + 8 by omega, padL_add, pad8]
      rw [show y / 10000 / 100 = v / 1000000 % 100 by omega, show y / 10000 % 100 = v / 10000 % 100 by omega, show y % 10000 / 100 = v / 100 % 100 by omega, show y % 10000 % 100 = v % 100 by omega]
      simp [List.append_assoc]
    · simp only
      rw [Nat.div_lt_iff_lt_mul (by omega), show (100000000 : Nat) = 10 ^ 8 from rfl, ← Nat.pow_add, show n - 8 + 8 = n by omega]
      exact k3
  · have c : ¬ (n : Int) ≥ 8 := c
    have hv : v < 100000000 := Nat.lt_of_lt_of_le k3 (Nat.pow_le_pow_right (by omega) (by omega : n ≤ 8))
    have c8 : n < 8 := by omega
    clear c
    have e12 : IntKind.wrap .u32 ((v : Nat) : Int) = (v : Int) := w32 (by omega)
    have hc4 : ∃ n4 v4 dg4, (4 ≤ n ∧ n4 = n - 4 ∧ v4 = v / 10000 ∧ dg4 = sm2 (v % 10000 / 100) ++ (sm2 (v % 10000 % 100) ++ dg)) ∨ (n < 4 ∧ n4 = n ∧ v4 = v ∧ dg4 = dg) := by
      by_cases h : 4 ≤ n
      · exact ⟨_, _, _, .inl ⟨h, rfl, rfl, rfl⟩⟩
      · exact ⟨_, _, _, .inr ⟨by omega, rfl, rfl, rfl⟩⟩
    obtain ⟨n4, v4, dg4, hc4⟩ := hc4
    have q1 : n4 < 4 ∧ n4 ≤ nd ∧ v4 < 10 ^ n4 ∧ dg4.length = nd - n4 ∧ padL nd u = padL n4 v4 ++ dg4 := by
      rcases hc4 with ⟨a1, rfl, rfl, rfl⟩ | ⟨a1, rfl, rfl, rfl⟩
      · refine ⟨by omega, by omega, ?_, by simp [sm2]; omega, ?_⟩
        · rw [Nat.div_lt_iff_lt_mul (by omega), show (10000 : Nat) = 10 ^ 4 from rfl, ← Nat.pow_add, show n - 4 + 4 = n by omega]
          exact k3
        · rw [k2]
          conv => lhs; rw [show n = (n - 4) + 4 by omega, padL_add, pad4]
          rw [show v % 10000 / 100 = v / 100 % 100 by omega, show v % 10000 % 100 = v % 100 by omega]
          simp [List.append_assoc]
      · exact ⟨a1, k1, k3, k5, k2⟩
    have t1 : (hd.take (n + 1)).length = n + 1 := by rw [List.length_take]; omega
    have s2 : (hd.take (1 + (n - 2))).length = 1 + (n - 2) := by rw [List.length_take]; omega
    iterate 7 (first | refine opsStep ?_ | refine codeStep ?_)
    refine VCode.upto (fr [(0, .hs 0 0 1 nd 1), (4, .int .i64 n4), (12, .int .u32 v4)]) [.cells 0 (celF (hd.take (1 + n4)) dg4 rest)] ?_ ?_
    · repeat first | refine opsStep ?_ | refine codeStep ?_ | refine drawStep ?_
      refine decB_dec (fun c4 => ?_) (fun c4 => ?_)
      · have c4 : (n : Int) ≥ 4 := c4
        have hcc : 4 ≤ n ∧ n4 = n - 4 ∧ v4 = v / 10000 ∧ dg4 = sm2 (v % 10000 / 100) ++ (sm2 (v % 10000 % 100) ++ dg) := by
          rcases hc4 with h | h
          · exact h
          · omega
        have z10 : (IntKind.wrap .u32 ((v : Nat) : Int)).tmod 10000 = ((v % 10000 : Nat) : Int) := by rw [e12, show (10000 : Int) = ((10000 : Nat) : Int) from rfl, tmN]
        have zv : IntKind.wrap .u32 ((IntKind.wrap .u32 ((v : Nat) : Int)).tdiv 10000) = ((v / 10000 : Nat) : Int) := by rw [e12, show (10000 : Int) = ((10000 : Nat) : Int) from rfl, tdN, w32 (by omega)]
        have g0 : IntKind.wrap .u32 (((IntKind.wrap .u32 ((v : Nat) : Int)).tmod 10000).tmod 100 * 2) = ((2 * (v % 10000 % 100) : Nat) : Int) := by rw [z10, show (100 : Int) = ((100 : Nat) : Int) from rfl, tmN, m2, w32 (by omega)]
        have g1 : IntKind.wrap .u32 (IntKind.wrap .u32 (((IntKind.wrap .u32 ((v : Nat) : Int)).tmod 10000).tdiv 100) * 2) = ((2 * (v % 10000 / 100) : Nat) : Int) := by rw [z10, show (100 : Int) = ((100 : Nat) : Int) from rfl, tdN, w32 (by omega), m2, w32 (by omega)]
        repeat first | refine opsStep ?_ | refine codeStep ?_ | refine drawStep ?_
        refine SW.drawn rfl (by kernel_rfl) ?_
        repeat first | refine opsStep ?_ | refine codeStep ?_ | refine drawStep ?_
        refine guardE_of (by show (0 : Int) ≤ IntKind.wrap .u32 ((IntKind.wrap .u32 (((IntKind.wrap .u32 ((v : Nat) : Int)).tmod 10000).tmod 100 * 2)) + 1); rw [g0, inc32 (by omega)]; omega) ?_
        refine optE_of (c := UInt8.ofNat (48 + (v % 10000 % 100) % 10)) (Eq.trans (b := smB[(IntKind.wrap .u32 ((IntKind.wrap .u32 (((IntKind.wrap .u32 ((v : Nat) : Int)).tmod 10000).tmod 100 * 2)) + 1)).toNat]?) (by kernel_rfl) (by rw [g0, inc32 (by omega), Int.toNat_natCast]; exact (smB_at (by omega)).2)) ?_
        repeat first | refine opsStep ?_ | refine codeStep ?_ | refine drawStep ?_
        refine guardE_of (by show (0 : Int) ≤ (IntKind.wrap .u32 (((IntKind.wrap .u32 ((v : Nat) : Int)).tmod 10000).tmod 100 * 2)); rw [g0]; omega) ?_
        refine optE_of (c := UInt8.ofNat (48 + (v % 10000 % 100) / 10)) (Eq.trans (b := smB[((IntKind.wrap .u32 (((IntKind.wrap .u32 ((v : Nat) : Int)).tmod 10000).tmod 100 * 2))).toNat]?) (by kernel_rfl) (by rw [g0, Int.toNat_natCast]; exact (smB_at (by omega)).1)) ?_
        repeat first | refine opsStep ?_ | refine codeStep ?_ | refine drawStep ?_
        refine guardE_of (by show (0 : Int) ≤ IntKind.wrap .i64 ((n : Int) - ((1 : Nat) : Int)) ∧ IntKind.wrap .i64 ((n : Int) - ((1 : Nat) : Int)) < (nd : Int); rw [subN (by omega) (by omega)]; omega) ?_
        repeat first | refine opsStep ?_ | refine codeStep ?_ | refine drawStep ?_
        refine guardE_of ⟨rfl, by decide, by show 1 + (IntKind.wrap .i64 ((n : Int) - ((1 : Nat) : Int))).toNat * 1 + 1 ≤ (celF (hd.take (n + 1)) dg rest).length; rw [subN (by omega) (by omega), Int.toNat_natCast, celF_len, t1]; omega⟩ ?_
        repeat first | refine opsStep ?_ | refine codeStep ?_ | refine drawStep ?_
        refine guardE_of (by show (0 : Int) ≤ IntKind.wrap .i64 ((n : Int) - ((2 : Nat) : Int)) ∧ IntKind.wrap .i64 ((n : Int) - ((2 : Nat) : Int)) < (nd : Int); rw [subN (by omega) (by omega)]; omega) ?_
        repeat first | refine opsStep ?_ | refine codeStep ?_ | refine drawStep ?_
        refine guardE_of ⟨rfl, by decide, by show 1 + (IntKind.wrap .i64 ((n : Int) - ((2 : Nat) : Int))).toNat * 1 + 1 ≤ (over (celF (hd.take (n + 1)) dg rest) (1 + (IntKind.wrap .i64 ((n : Int) - ((1 : Nat) : Int))).toNat * 1) [.int .u8 (UInt8.ofNat (48 + (v % 10000 % 100) % 10)).toNat]).length; rw [subN (by omega) (by omega), subN (by omega) (by omega), Int.toNat_natCast, Int.toNat_natCast, over_lenI (by rw [celF_len, t1]; omega), celF_len, t1]; omega⟩ ?_
        repeat first | refine opsStep ?_ | refine codeStep ?_ | refine drawStep ?_
        refine ⟨by kernel_rfl, ?_⟩
        refine VCode.ent (Ent.fr' (l := [(0, .hs 0 0 1 nd 1), (4, .int .i64 n), (12, .int .u32 (v / 10000 : Nat)), (14, .int .u32 (2 * (v % 10000 / 100) : Nat))]) (H' := [.cells 0 (celF (hd.take (1 + (n - 2))) (sm2 ((v % 10000 % 100)) ++ dg) rest)]) ⟨(by kernel_rfl), (by kernel_rfl), congrArg (AV.int .u32) zv, congrArg (AV.int .u32) g1, trivial⟩ (Eq.trans (b := [.cells 0 (over (over (celF (hd.take (n + 1)) dg rest) (1 + (IntKind.wrap .i64 ((n : Int) - ((1 : Nat) : Int))).toNat * 1) [.int .u8 (UInt8.ofNat (48 + (v % 10000 % 100) % 10)).toNat]) (1 + (IntKind.wrap .i64 ((n : Int) - ((2 : Nat) : Int))).toNat * 1) [.int .u8 (UInt8.ofNat (48 + (v % 10000 % 100) / 10)).toNat])]) (by kernel_rfl) (by
          rw [subN (by omega) (by omega), subN (by omega) (by omega), Int.toNat_natCast, Int.toNat_natCast, show 1 + (n - 1) * 1 = (1 + (n - 2)) + 1 by omega, show 1 + (n - 2) * 1 = 1 + (n - 2) by omega, put2 (by rw [t1]; omega), List.take_take, Nat.min_eq_left (by omega)]))) ?_
        repeat first | refine opsStep ?_ | refine codeStep ?_ | refine drawStep ?_
        refine SW.drawn rfl (by kernel_rfl) ?_
        repeat first | refine opsStep ?_ | refine codeStep ?_ | refine drawStep ?_
        refine guardE_of (by show (0 : Int) ≤ IntKind.wrap .u32 (((2 * (v % 10000 / 100) : Nat) : Int) + 1); rw [(rfl : ((2 * (v % 10000 / 100) : Nat) : Int) = ((2 * (v % 10000 / 100) : Nat) : Int)), inc32 (by omega)]; omega) ?_
        refine optE_of (c := UInt8.ofNat (48 + (v % 10000 / 100) % 10)) (Eq.trans (b := smB[(IntKind.wrap .u32 (((2 * (v % 10000 / 100) : Nat) : Int) + 1)).toNat]?) (by kernel_rfl) (by rw [(rfl : ((2 * (v % 10000 / 100) : Nat) : Int) = ((2 * (v % 10000 / 100) : Nat) : Int)), inc32 (by omega), Int.toNat_natCast]; exact (smB_at (by omega)).2)) ?_
        repeat first | refine opsStep ?_ | refine codeStep ?_ | refine drawStep ?_
        refine guardE_of (by show (0 : Int) ≤ ((2 * (v % 10000 / 100) : Nat) : Int); rw [(rfl : ((2 * (v % 10000 / 100) : Nat) : Int) = ((2 * (v % 10000 / 100) : Nat) : Int))]; omega) ?_
        refine optE_of (c := UInt8.ofNat (48 + (v % 10000 / 100) / 10)) (Eq.trans (b := smB[(((2 * (v % 10000 / 100) : Nat) : Int)).toNat]?) (by kernel_rfl) (by rw [(rfl : ((2 * (v % 10000 / 100) : Nat) : Int) = ((2 * (v % 10000 / 100) : Nat) : Int)), Int.toNat_natCast]; exact (smB_at (by omega)).1)) ?_
        repeat first | refine opsStep ?_ | refine codeStep ?_ | refine drawStep ?_
        refine guardE_of (by show (0 : Int) ≤ IntKind.wrap .i64 ((n : Int) - ((3 : Nat) : Int)) ∧ IntKind.wrap .i64 ((n : Int) - ((3 : Nat) : Int)) < (nd : Int); rw [subN (by omega) (by omega)]; omega) ?_
        repeat first | refine opsStep ?_ | refine codeStep ?_ | refine drawStep ?_
        refine guardE_of ⟨rfl, by decide, by show 1 + (IntKind.wrap .i64 ((n : Int) - ((3 : Nat) : Int))).toNat * 1 + 1 ≤ (celF (hd.take (1 + (n - 2))) (sm2 (v % 10000 % 100) ++ dg) rest).length; rw [subN (by omega) (by omega), Int.toNat_natCast, celF_len, s2]; omega⟩ ?_
        repeat first | refine opsStep ?_ | refine codeStep ?_ | refine drawStep ?_
        refine guardE_of (by show (0 : Int) ≤ IntKind.wrap .i64 ((n : Int) - ((4 : Nat) : Int)) ∧ IntKind.wrap .i64 ((n : Int) - ((4 : Nat) : Int)) < (nd : Int); rw [subN (by omega) (by omega)]; omega) ?_
        repeat first | refine opsStep ?_ | refine codeStep ?_ | refine drawStep ?_
        refine guardE_of ⟨rfl, by decide, by show 1 + (IntKind.wrap .i64 ((n : Int) - ((4 : Nat) : Int))).toNat * 1 + 1 ≤ (over (celF (hd.take (1 + (n - 2))) (sm2 (v % 10000 % 100) ++ dg) rest) (1 + (IntKind.wrap .i64 ((n : Int) - ((3 : Nat) : Int))).toNat * 1) [.int .u8 (UInt8.ofNat (48 + (v % 10000 / 100) % 10)).toNat]).length; rw [subN (by omega) (by omega), subN (by omega) (by omega), Int.toNat_natCast, Int.toNat_natCast, over_lenI (by rw [celF_len, s2]; omega), celF_len, s2]; omega⟩ ?_
        repeat first | refine opsStep ?_ | refine codeStep ?_ | refine drawStep ?_
        refine ⟨by kernel_rfl, ?_⟩
        refine VCode.ent (Ent.fr' (l := [(0, .hs 0 0 1 nd 1), (4, .int .i64 n), (12, .int .u32 (v / 10000 : Nat))]) (H' := [.cells 0 (celF (hd.take (1 + (n - 4))) (sm2 ((v % 10000 / 100)) ++ (sm2 (v % 10000 % 100) ++ dg)) rest)]) ⟨(by kernel_rfl), (by kernel_rfl), (by kernel_rfl), trivial⟩ (Eq.trans (b := [.cells 0 (over (over (celF (hd.take (1 + (n - 2))) (sm2 (v % 10000 % 100) ++ dg) rest) (1 + (IntKind.wrap .i64 ((n : Int) - ((3 : Nat) : Int))).toNat * 1) [.int .u8 (UInt8.ofNat (48 + (v % 10000 / 100) % 10)).toNat]) (1 + (IntKind.wrap .i64 ((n : Int) - ((4 : Nat) : Int))).toNat * 1) [.int .u8 (UInt8.ofNat (48 + (v % 10000 / 100) / 10)).toNat])]) (by kernel_rfl) (by
          rw [subN (by omega) (by omega), subN (by omega) (by omega), Int.toNat_natCast, Int.toNat_natCast, show 1 + (n - 3) * 1 = (1 + (n - 4)) + 1 by omega, show 1 + (n - 4) * 1 = 1 + (n - 4) by omega, put2 (by rw [s2]; omega), List.take_take, Nat.min_eq_left (by omega)]))) ?_
        repeat first | refine opsStep ?_ | refine codeStep ?_ | refine drawStep ?_
        refine Ent.fr' ⟨(by kernel_rfl), Eq.trans (b := .int .i64 (IntKind.wrap .i64 ((n : Int) - ((4 : Nat) : Int)))) (by kernel_rfl) (by rw [subN (by omega) (by omega), hcc.2.1]), Eq.trans (b := .int .u32 (v / 10000 : Nat)) (by kernel_rfl) (by rw [hcc.2.2.1]), trivial⟩ (Eq.trans (b := [.cells 0 (celF (hd.take (1 + (n - 4))) (sm2 (v % 10000 / 100) ++ (sm2 (v % 10000 % 100) ++ dg)) rest)]) (by kernel_rfl) (by rw [hcc.2.1, hcc.2.2.2]))
      · have c4 : ¬ (n : Int) ≥ 4 := c4
        have hcc : n4 = n ∧ v4 = v ∧ dg4 = dg := by
          rcases hc4 with h | h
          · omega
          · exact h.2
        repeat first | refine opsStep ?_ | refine codeStep ?_ | refine drawStep ?_
        refine Ent.fr' ⟨(by kernel_rfl), Eq.trans (b := .int .i64 n) (by kernel_rfl) (by rw [hcc.1]), Eq.trans (b := .int .u32 (IntKind.wrap .u32 ((v : Nat) : Int))) (by kernel_rfl) (by rw [e12, hcc.2.1]), trivial⟩ (Eq.trans (b := [.cells 0 (celF (hd.take (n + 1)) dg rest)]) (by kernel_rfl) (by rw [hcc.1, hcc.2.2, Nat.add_comm 1]))
    have r1 := q1.1
    have r2 := q1.2.1
    have r3 := q1.2.2.1
    have r4 := q1.2.2.2.1
    have r5 := q1.2.2.2.2
    clear hc4 q1 t1 s2 e12 hv c8
    generalize n4 = n at *
    generalize v4 = v at *
    generalize dg4 = dg at *
    have hv : v < 10000 := Nat.lt_of_lt_of_le r3 (Nat.pow_le_pow_right (by omega) (by omega : n ≤ 4))
    have hc2 : ∃ n2 v2 dg2, (2 ≤ n ∧ n2 = n - 2 ∧ v2 = v / 100 ∧ dg2 = sm2 (v % 100) ++ dg) ∨ (n < 2 ∧ n2 = n ∧ v2 = v ∧ dg2 = dg) := by
      by_cases h : 2 ≤ n
      · exact ⟨_, _, _, .inl ⟨h, rfl, rfl, rfl⟩⟩
      · exact ⟨_, _, _, .inr ⟨by omega, rfl, rfl, rfl⟩⟩
    obtain ⟨n2, v2, dg2, hc2⟩ := hc2
    have q2 : n2 < 2 ∧ v2 < 10 ^ n2 ∧ dg2.length = nd - n2 ∧ padL nd u = padL n2 v2 ++ dg2 := by
      rcases hc2 with ⟨a1, rfl, rfl, rfl⟩ | ⟨a1, rfl, rfl, rfl⟩
      · refine ⟨by omega, ?_, by simp [sm2]; omega, ?_⟩
        · rw [Nat.div_lt_iff_lt_mul (by omega), show (100 : Nat) = 10 ^ 2 from rfl, ← Nat.pow_add, show n - 2 + 2 = n by omega]
          exact r3
        · rw [r5]
          conv => lhs; rw [show n = (n - 2) + 2 by omega, padL_add, pad2]
          simp [List.append_assoc]
      · exact ⟨a1, r3, r4, r5⟩
    have t1 : (hd.take (1 + n)).length = 1 + n := by rw [List.length_take]; omega
    refine VCode.upto (fr [(0, .hs 0 0 1 nd 1), (4, .int .i64 n2), (12, .int .u32 v2)]) [.cells 0 (celF (hd.take (1 + n2)) dg2 rest)] ?_ ?_
    · repeat first | refine opsStep ?_ | refine codeStep ?_ | refine drawStep ?_
      refine decB_dec (fun c2 => ?_) (fun c2 => ?_)
      · have c2 : (n : Int) ≥ 2 := c2
        have hcc : 2 ≤ n ∧ n2 = n - 2 ∧ v2 = v / 100 ∧ dg2 = sm2 (v % 100) ++ dg := by
          rcases hc2 with h | h
          · exact h
          · omega
        have zv : IntKind.wrap .u32 ((v : Int).tdiv 100) = ((v / 100 : Nat) : Int) := by rw [show (100 : Int) = ((100 : Nat) : Int) from rfl, tdN, w32 (by omega)]
        have g0 : IntKind.wrap .u32 ((v : Int).tmod 100 * 2) = ((2 * (v % 100) : Nat) : Int) := by rw [show (100 : Int) = ((100 : Nat) : Int) from rfl, tmN, m2, w32 (by omega)]
        repeat first | refine opsStep ?_ | refine codeStep ?_ | refine drawStep ?_
        refine SW.drawn rfl (by kernel_rfl) ?_
        repeat first | refine opsStep ?_ | refine codeStep ?_ | refine drawStep ?_
        refine guardE_of (by show (0 : Int) ≤ IntKind.wrap .u32 ((IntKind.wrap .u32 ((v : Int).tmod 100 * 2)) + 1); rw [g0, inc32 (by omega)]; omega) ?_
        refine optE_of (c := UInt8.ofNat (48 + (v % 100) % 10)) (Eq.trans (b := smB[(IntKind.wrap .u32 ((IntKind.wrap .u32 ((v : Int).tmod 100 * 2)) + 1)).toNat]?) (by kernel_rfl) (by rw [g0, inc32 (by omega), Int.toNat_natCast]; exact (smB_at (by omega)).2)) ?_
        repeat first | refine opsStep ?_ | refine codeStep ?_ | refine drawStep ?_
        refine guardE_of (by show (0 : Int) ≤ (IntKind.wrap .u32 ((v : Int).tmod 100 * 2)); rw [g0]; omega) ?_
        refine optE_of (c := UInt8.ofNat (48 + (v % 100) / 10)) (Eq.trans (b := smB[((IntKind.wrap .u32 ((v : Int).tmod 100 * 2))).toNat]?) (by kernel_rfl) (by rw [g0, Int.toNat_natCast]; exact (smB_at (by omega)).1)) ?_
        repeat first | refine opsStep ?_ | refine codeStep ?_ | refine drawStep ?_
        refine guardE_of (by show (0 : Int) ≤ IntKind.wrap .i64 ((n : Int) - ((1 : Nat) : Int)) ∧ IntKind.wrap .i64 ((n : Int) - ((1 : Nat) : Int)) < (nd : Int); rw [subN (by omega) (by omega)]; omega) ?_
        repeat first | refine opsStep ?_ | refine codeStep ?_ | refine drawStep ?_
        refine guardE_of ⟨rfl, by decide, by show 1 + (IntKind.wrap .i64 ((n : Int) - ((1 : Nat) : Int))).toNat * 1 + 1 ≤ (celF (hd.take (1 + n)) dg rest).length; rw [subN (by omega) (by omega), Int.toNat_natCast, celF_len, t1]; omega⟩ ?_
        repeat first | refine opsStep ?_ | refine codeStep ?_ | refine drawStep ?_
        refine guardE_of (by show (0 : Int) ≤ IntKind.wrap .i64 ((n : Int) - ((2 : Nat) : Int)) ∧ IntKind.wrap .i64 ((n : Int) - ((2 : Nat) : Int)) < (nd : Int); rw [subN (by omega) (by omega)]; omega) ?_
        repeat first | refine opsStep ?_ | refine codeStep ?_ | refine drawStep ?_
        refine guardE_of ⟨rfl, by decide, by show 1 + (IntKind.wrap .i64 ((n : Int) - ((2 : Nat) : Int))).toNat * 1 + 1 ≤ (over (celF (hd.take (1 + n)) dg rest) (1 + (IntKind.wrap .i64 ((n : Int) - ((1 : Nat) : Int))).toNat * 1) [.int .u8 (UInt8.ofNat (48 + (v % 100) % 10)).toNat]).length; rw [subN (by omega) (by omega), subN (by omega) (by omega), Int.toNat_natCast, Int.toNat_natCast, over_lenI (by rw [celF_len, t1]; omega), celF_len, t1]; omega⟩ ?_
        repeat first | refine opsStep ?_ | refine codeStep ?_ | refine drawStep ?_
        refine ⟨by kernel_rfl, ?_⟩
        refine VCode.ent (Ent.fr' (l := [(0, .hs 0 0 1 nd 1), (4, .int .i64 n), (12, .int .u32 (v / 100 : Nat))]) (H' := [.cells 0 (celF (hd.take (1 + (n - 2))) (sm2 ((v % 100)) ++ dg) rest)]) ⟨(by kernel_rfl), (by kernel_rfl), congrArg (AV.int .u32) zv, trivial⟩ (Eq.trans (b := [.cells 0 (over (over (celF (hd.take (1 + n)) dg rest) (1 + (IntKind.wrap .i64 ((n : Int) - ((1 : Nat) : Int))).toNat * 1) [.int .u8 (UInt8.ofNat (48 + (v % 100) % 10)).toNat]) (1 + (IntKind.wrap .i64 ((n : Int) - ((2 : Nat) : Int))).toNat * 1) [.int .u8 (UInt8.ofNat (48 + (v % 100) / 10)).toNat])]) (by kernel_rfl) (by
          rw [subN (by omega) (by omega), subN (by omega) (by omega), Int.toNat_natCast, Int.toNat_natCast, show 1 + (n - 1) * 1 = (1 + (n - 2)) + 1 by omega, show 1 + (n - 2) * 1 = 1 + (n - 2) by omega, put2 (by rw [t1]; omega), List.take_take, Nat.min_eq_left (by omega)]))) ?_
        repeat first | refine opsStep ?_ | refine codeStep ?_ | refine drawStep ?_
        refine Ent.fr' ⟨(by kernel_rfl), Eq.trans (b := .int .i64 (IntKind.wrap .i64 ((n : Int) - ((2 : Nat) : Int)))) (by kernel_rfl) (by rw [subN (by omega) (by omega), hcc.2.1]), Eq.trans (b := .int .u32 (v / 100 : Nat)) (by kernel_rfl) (by rw [hcc.2.2.1]), trivial⟩ (Eq.trans (b := [.cells 0 (celF (hd.take (1 + (n - 2))) (sm2 (v % 100) ++ dg) rest)]) (by kernel_rfl) (by rw [hcc.2.1, hcc.2.2.2]))
      · have c2 : ¬ (n : Int) ≥ 2 := c2
        have hcc : n2 = n ∧ v2 = v ∧ dg2 = dg := by
          rcases hc2 with h | h
          · omega
          · exact h.2
        repeat first | refine opsStep ?_ | refine codeStep ?_ | refine drawStep ?_
        refine Ent.fr' ⟨(by kernel_rfl), Eq.trans (b := .int .i64 n) (by kernel_rfl) (by rw [hcc.1]), Eq.trans (b := .int .u32 v) (by kernel_rfl) (by rw [hcc.2.1]), trivial⟩ (Eq.trans (b := [.cells 0 (celF (hd.take (1 + n)) dg rest)]) (by kernel_rfl) (by rw [hcc.1, hcc.2.2]))
    have p1 := q2.1
    have p2 := q2.2.1
    have p4 := q2.2.2.2
    clear q2 hc2
    cases n2 with
    | zero =>
      rw [p4]
      repeat first | refine opsStep ?_ | refine codeStep ?_ | refine drawStep ?_
      exact finR (l := []) (v := .tup []) (H₁ := [.cells 0 (celF (hd.take 1) dg2 rest)]) trivial (by kernel_rfl) (Ent.refl _ _ _) (by kernel_rfl) ⟨rfl, rfl⟩
    | succ j =>
      have hj : j = 0 := by omega
      subst hj
      have hv2 : v2 < 10 := p2
      have hh : hd.take (1 + 1) = [hd[0]'(by omega), hd[1]'(by omega)] := by
        rw [List.take_succ_eq_append_getElem (by omega), List.take_succ_eq_append_getElem (by omega)]; simp
      have hh1 : hd.take 1 = [hd[0]'(by omega)] := by rw [List.take_succ_eq_append_getElem (by omega)]; simp
      have hb : IntKind.wrap .u8 (IntKind.wrap .u32 (48 + (v2 : Int))) = (((UInt8.ofNat (48 + v2)).toNat : Nat) : Int) := by
        rw [u8_dig (by omega), IntWalk.u32_in _ (by omega), IntWalk.u8_in _ (by omega)]; simp
      rw [p4, hh1]
      have hp1 : padL (0 + 1) v2 ++ dg2 = UInt8.ofNat (48 + v2) :: dg2 := by show ([] ++ [UInt8.ofNat (48 + v2 % 10)]) ++ dg2 = _; rw [Nat.mod_eq_of_lt hv2]; rfl
      rw [hp1]
      refine VCode.ent (Ent.fr' (l := [(0, .hs 0 0 1 nd 1), (4, .int .i64 1), (12, .int .u32 v2)]) (H' := [.cells 0 (celF [hd[0]'(by omega), hd[1]'(by omega)] dg2 rest)]) ⟨(by kernel_rfl), (by kernel_rfl), (by kernel_rfl), trivial⟩ (by show [Blk.cells 0 (celF (hd.take (1 + 1)) dg2 rest)] = _; rw [hh])) ?_
      repeat first | refine opsStep ?_ | refine codeStep ?_ | refine drawStep ?_
      refine guardE_of ⟨by decide, by show (0 : Int) < (nd : Int); omega⟩ ?_
      repeat first | refine opsStep ?_ | refine codeStep ?_ | refine drawStep ?_
      exact finR (l := []) (v := .tup []) (H₁ := [.cells 0 (celF [hd[0]'(by omega)] (UInt8.ofNat (48 + v2) :: dg2) rest)]) trivial (Eq.trans (b := [.cells 0 (over (celF [hd[0]'(by omega), hd[1]'(by omega)] dg2 rest) (1 + 0 * 1) [.int .u8 (IntKind.wrap .u8 (IntKind.wrap .u32 (48 + (v2 : Int))))])]) (by kernel_rfl) (by rw [hb]; exact congrArg (fun l => [Blk.cells 0 l]) put1)) (Ent.refl _ _ _) (by kernel_rfl) ⟨rfl, rfl⟩

end Tab

/- Numbers as texts. -/
namespace Tab
open Go Go.Proofs
set_option maxRecDepth 10000
set_option linter.unusedVariables false
set_option linter.unusedSimpArgs false
set_option linter.unusedSectionVars false
set_option maxHeartbeats 1000000

theorem strOf_byt : ∀ l : List UInt8, strOf (bytA l) = some l
  | [] => rfl
  | c :: l => by
    show strOf (.int .u8 c.toNat :: bytA l) = _
    rw [strOf, strOf_byt l]
    simp
def z24 : List AV := List.replicate 24 (.int .u8 0)
theorem z24_split (n : Nat) : z24 = z24.take n ++ z24.drop n := (List.take_append_drop n z24).symm
theorem fmt_Int' (n : Nat) (h : n ≤ 9223372036854775807) : Pure Tryd.prog 79 [.int .i64 n, .int .i64 10] (.str (dgL n)) := by
  refine Pure.of_sw 54 Tryd.func79 rfl Tryd.ntmps79 (by kernel_rfl) (Nat.le_of_ble_eq_true (by kernel_rfl)) (by simp [closeds, AV.closed, aSs_closed, aIs_closed, aBs_closed, aRs_closed, aDen_closed]) (by simp [AV.closed, closeds, aSs_closed, aIs_closed, aBs_closed, aRs_closed, aDen_closed]) ?_; refine SW.of_vc ?_
  repeat first | refine opsStep ?_ | refine codeStep ?_ | refine drawStep ?_
  refine decB_dec (fun c => ?_) (fun c => ?_)
  · have c : (n : Int) < 100 := c
    repeat first | refine opsStep ?_ | refine codeStep ?_ | refine drawStep ?_
    refine callP (fmt_small n (by omega)) ?_
    repeat first | refine opsStep ?_ | refine codeStep ?_ | refine drawStep ?_
    exact finV (v' := .str (dgL n)) (by kernel_rfl) rfl
  · have c : ¬ (n : Int) < 100 := c
    have e64 : IntKind.wrap .u64 ((n : Nat) : Int) = (n : Int) := w64 (by omega)
    obtain ⟨d1, d2, d3⟩ := ndS_ok (n := n) (by omega) (by omega)
    have hnd20 : ndS n ≤ 20 := by
      obtain ⟨a1, a2⟩ := lenN_le64 (n := n) (by omega) (by omega)
      obtain ⟨_, _, k3⟩ := l10_ok _ a2 a1
      rw [ndS]; split <;> omega
    have hdg : dgL n = padL (ndS n) n := dgL_nd (by omega) (by omega)
    have hnd := fmt_nd n (by omega) (by omega)
    rw [← e64] at hnd
    have ew : IntKind.wrap .i64 (1 + ((ndS n : Nat) : Int)) = ((ndS n + 1 : Nat) : Int) := by rw [IntWalk.i64_in _ (by omega)]; omega
    generalize hD : ndS n = D at *
    rw [hdg]
    have hz : z24.length = 24 := by simp [z24]
    have hcall := fmt10 n D (z24.take (D + 1)) (z24.drop (D + 1)) d1 hnd20 d3 (by omega) (by rw [List.length_take]; omega)
    rw [← z24_split, List.take_take, Nat.min_eq_left (by omega)] at hcall
    have hcall' : ACall Tryd.prog 107 [.hs 0 0 (0 + (1 : Int).toNat * 1) ((IntKind.wrap .i64 (1 + ((D : Nat) : Int))).toNat - (1 : Int).toNat) 1, .int .u64 (IntKind.wrap .u64 ((n : Nat) : Int))] [.cells 0 z24] fun o H' => o = .ret (.tup []) ∧ H' = [.cells 0 (celF (z24.take 1) (padL D n) (z24.drop (D + 1)))] := by
      rw [ew, e64, Int.toNat_natCast]
      exact hcall
    have hcl : (celF (z24.take 1) (padL D n) (z24.drop (D + 1))).length = 24 := by rw [celF_len, padL_len, List.length_take, List.length_drop]; omega
    have hcut : ((celF (z24.take 1) (padL D n) (z24.drop (D + 1))).drop 1).take (D * 1) = bytA (padL D n) := by
      rw [celF, List.append_assoc, List.drop_left' (by rw [List.length_take]; omega), List.take_left' (by rw [bytA, List.length_map, padL_len]; omega)]
    repeat first | refine opsStep ?_ | refine codeStep ?_ | refine drawStep ?_
    refine callP (args := [.int .u64 (IntKind.wrap .u64 ((n : Nat) : Int))]) hnd ?_
    repeat first | refine opsStep ?_ | refine codeStep ?_ | refine drawStep ?_
    refine guardE_of ⟨by show (0 : Int) ≤ 1 ∧ (1 : Int) ≤ IntKind.wrap .i64 (1 + ((D : Nat) : Int)) ∧ IntKind.wrap .i64 (1 + ((D : Nat) : Int)) ≤ (24 : Nat); rw [ew]; omega, .inr (by show (1 : Int) < IntKind.wrap .i64 (1 + ((D : Nat) : Int)); rw [ew]; omega)⟩ ?_
    repeat first | refine opsStep ?_ | refine codeStep ?_ | refine drawStep ?_
    refine ⟨_, hcall', ?_⟩
    rintro _ _ ⟨rfl, rfl⟩
    repeat first | refine opsStep ?_ | refine codeStep ?_ | refine drawStep ?_
    refine guardE_of ⟨rfl, by rw [hcl]; decide, by show 0 + 24 * 1 ≤ (celF _ _ _).length; rw [hcl]; omega⟩ ?_
    refine guardE_of ⟨by show (0 : Int) ≤ 1 ∧ (1 : Int) ≤ IntKind.wrap .i64 (1 + ((D : Nat) : Int)) ∧ IntKind.wrap .i64 (1 + ((D : Nat) : Int)) ≤ (24 : Nat); rw [ew]; omega, .inr (by show (1 : Int) < IntKind.wrap .i64 (1 + ((D : Nat) : Int)); rw [ew]; omega)⟩ ?_
    repeat first | refine opsStep ?_ | refine codeStep ?_ | refine drawStep ?_
    refine guardE_of ⟨rfl, by show 0 + (1 : Int).toNat * 1 + ((IntKind.wrap .i64 (1 + ((D : Nat) : Int))).toNat - (1 : Int).toNat) * 1 ≤ (celF _ _ _).length; rw [hcl, ew, Int.toNat_natCast]; show 0 + 1 * 1 + (D + 1 - 1) * 1 ≤ 24; omega⟩ ?_
    refine optE_of (c := padL D n) (by
      show strOf (((celF (z24.take 1) (padL D n) (z24.drop (D + 1))).drop (0 + (1 : Int).toNat * 1)).take (((IntKind.wrap .i64 (1 + ((D : Nat) : Int))).toNat - (1 : Int).toNat) * 1)) = _
      rw [ew, Int.toNat_natCast]
      show strOf (((celF (z24.take 1) (padL D n) (z24.drop (D + 1))).drop 1).take ((D + 1 - 1) * 1)) = _
      rw [Nat.add_sub_cancel, hcut, strOf_byt]) ?_
    repeat first | refine opsStep ?_ | refine codeStep ?_ | refine drawStep ?_
    exact finV (v' := .str (padL D n)) (by kernel_rfl) rfl
theorem fmt_Int (n : Nat) (h : n ≤ 9223372036854775807) : Pure Tryd.prog 52 [.int .i64 n, .int .i64 10] (.str (dgL n)) := by
  refine Pure.of_sw 8 Tryd.func52 rfl Tryd.ntmps52 (by kernel_rfl) (Nat.le_of_ble_eq_true (by kernel_rfl)) (by simp [closeds, AV.closed, aSs_closed, aIs_closed, aBs_closed, aRs_closed, aDen_closed]) (by simp [AV.closed, closeds, aSs_closed, aIs_closed, aBs_closed, aRs_closed, aDen_closed]) ?_; refine SW.of_vc ?_
  repeat first | refine opsStep ?_ | refine codeStep ?_ | refine drawStep ?_
  refine callP (fmt_Int' n h) ?_
  repeat first | refine opsStep ?_ | refine codeStep ?_ | refine drawStep ?_
  exact finV (v' := .str (dgL n)) (by kernel_rfl) rfl

end Tab

/- Texts of terms. -/
namespace Tab
open Go Go.Proofs
set_option maxRecDepth 10000
set_option linter.unusedVariables false
set_option linter.unusedSimpArgs false
set_option linter.unusedSectionVars false
set_option maxHeartbeats 1000000

theorem dg_lenU : ∀ (k n : Nat), n < 10 ^ (k + 1) → (dgL n).length ≤ k + 1
  | 0, n, h => by rw [dgL_small (by omega)]; simp
  | k + 1, n, h => by
    by_cases h9 : n ≤ 9
    · rw [dgL_small h9]; simp
    · rw [dgL_big h9, List.length_append, List.length_singleton]
      have := dg_lenU k (n / 10) (by rw [Nat.div_lt_iff_lt_mul (by decide)]; rw [Nat.pow_succ] at h; exact h)
      omega
theorem binds0 {op : Int} (h : op = 3 ∨ op = 4) : bindsV op = 0 := if_pos h
theorem binds1 {op : Int} (h : op = 5) : bindsV op = 1 := by subst h; rfl
theorem binds2 {op : Int} (h : ¬ op = 3) (h' : ¬ op = 4) (h'' : ¬ op = 5) : bindsV op = 2 := by unfold bindsV; rw [if_neg (by omega), if_neg h'']
def txK : Nat := 2 ^ 47 + 64
theorem part_len (x : List UInt8 × Int) (l : Int) : (partS x l).length ≤ x.1.length + 2 := by
  rw [partS]; split <;> simp <;> omega
def sumL : List (List UInt8 × Int) → Nat
  | [] => 0
  | x :: l => x.1.length + sumL l
theorem sum_two (l : List (List UInt8 × Int)) : (l.getD 0 ([], 0)).1.length + (l.getD 1 ([], 0)).1.length ≤ sumL l := by
  match l with
  | [] => simp [sumL]
  | [a] => simp [sumL]
  | a :: b :: l => simp [sumL] <;> omega
theorem joinT_len (op num : Int) (name : List UInt8) (l : List (List UInt8 × Int)) (hn : okI6 num) (hm : name.length ≤ 2 ^ 47) : (joinT op num name l).length ≤ sumL l + txK := by
  have h2 := sum_two l
  have hk : txK = 2 ^ 47 + 64 := rfl
  rw [joinT]
  split
  · have := dg_lenU 18 num.toNat (by have := hn.2; omega)
    omega
  split
  · omega
  split
  · have := part_len (l.getD 0 ([], 0)) 2
    simp only [List.length_append, List.length_cons, List.length_nil]; omega
  split
  · have := part_len (l.getD 0 ([], 0)) 0
    have := part_len (l.getD 1 ([], 0)) 1
    simp only [List.length_append, List.length_cons, List.length_nil]; omega
  split
  · have := part_len (l.getD 0 ([], 0)) 0
    have := part_len (l.getD 1 ([], 0)) 1
    simp only [List.length_append, List.length_cons, List.length_nil]; omega
  · have := part_len (l.getD 0 ([], 0)) 1
    have := part_len (l.getD 1 ([], 0)) 2
    simp only [List.length_append, List.length_cons, List.length_nil]; omega
mutual
theorem TT.tx_len : ∀ t : TT, t.ok → t.tx.length ≤ t.nodes * txK
  | .mk op num name k args, h => by
    rw [TT.ok] at h
    have h1 := ttsTx_len args h.2.2.2.2
    have h2 := joinT_len op num name (ttsTx args) h.2.1 h.2.2.1
    rw [TT.tx, TT.nodes, Nat.add_mul, Nat.one_mul]
    omega
theorem ttsTx_len : ∀ l : List TT, ttsOk l → sumL (ttsTx l) ≤ ttsNodes l * txK
  | [], _ => by simp [ttsTx, sumL, ttsNodes]
  | t :: l, h => by
    rw [ttsOk] at h
    have h1 := TT.tx_len t h.1
    have h2 := ttsTx_len l h.2
    rw [ttsTx, sumL, ttsNodes, Nat.add_mul]
    simp only
    omega
end
theorem TT.tx_small {t : TT} (h : t.ok) (hn : t.nodes ≤ 500) : t.tx.length < 2 ^ 60 := by
  have h1 := TT.tx_len t h
  have h2 : t.nodes * txK ≤ 500 * txK := Nat.mul_le_mul_right _ hn
  have hk : txK = 2 ^ 47 + 64 := rfl
  omega

theorem show_binds (t : TT) : Pure Tryd.prog 83 [.agg t.cells] (.int .i64 (bindsV t.op)) := by
  rw [TT.cells_eq]
  rcases t with ⟨op, num, name, k, args⟩
  simp only [TT.op, TT.num, TT.name, TT.k, TT.args]
  refine Pure.of_sw 10 Tryd.func83 rfl Tryd.ntmps83 (by kernel_rfl) (Nat.le_of_ble_eq_true (by kernel_rfl)) (by simp only [closeds]; exact ⟨tC_closed op num name k args, trivial⟩) (by simp only [AV.closed]) ?_
  refine SW.of_vc ?_
  repeat first | refine opsStep ?_ | refine codeStep ?_ | refine drawStep ?_
  refine decB_dec (fun h3 => ?_) (fun h3 => ?_)
  · have h3 : op = 3 := h3
    repeat first | refine opsStep ?_ | refine codeStep ?_ | refine drawStep ?_
    refine decB_true (b := decide (op = 3)) (by simp [h3]) ?_
    repeat first | refine opsStep ?_ | refine codeStep ?_ | refine drawStep ?_
    exact finV (v := .int .i64 (bindsV op)) (v' := .int .i64 0) (by kernel_rfl) (by rw [binds0 (.inl h3)])
  · have h3 : ¬ op = 3 := h3
    repeat first | refine opsStep ?_ | refine codeStep ?_ | refine drawStep ?_
    refine decB_dec (fun h4 => ?_) (fun h4 => ?_)
    · have h4 : op = 4 := h4
      repeat first | refine opsStep ?_ | refine codeStep ?_ | refine drawStep ?_
      exact finV (v := .int .i64 (bindsV op)) (v' := .int .i64 0) (by kernel_rfl) (by rw [binds0 (.inr h4)])
    · have h4 : ¬ op = 4 := h4
      repeat first | refine opsStep ?_ | refine codeStep ?_ | refine drawStep ?_
      refine decB_dec (fun h5 => ?_) (fun h5 => ?_)
      · have h5 : op = 5 := h5
        repeat first | refine opsStep ?_ | refine codeStep ?_ | refine drawStep ?_
        exact finV (v := .int .i64 (bindsV op)) (v' := .int .i64 1) (by kernel_rfl) (by rw [binds1 h5])
      · have h5 : ¬ op = 5 := h5
        repeat first | refine opsStep ?_ | refine codeStep ?_ | refine drawStep ?_
        exact finV (v := .int .i64 (bindsV op)) (v' := .int .i64 2) (by kernel_rfl) (by rw [binds2 h3 h4 h5])

theorem show_part (t : TT) (least : Int) (ht : Pure Tryd.prog 36 [.agg t.cells] (.str t.tx)) (hl : t.tx.length < 2 ^ 60) : Pure Tryd.prog 56 [.agg t.cells, .int .i64 least] (.str (partS (t.tx, t.op) least)) := by
  have hb := show_binds t
  have hcl : (t.cells.drop 0).take 4 = t.cells := by rw [List.drop_zero, List.take_of_length_le (by rw [TT.cells_len]; omega)]
  have hlen := TT.cells_len t
  have hcc := TT.cells_closed t
  rw [← hcl] at ht hb
  rw [show [AV.agg t.cells, .int .i64 least] = [AV.agg t.cells, .int .i64 least] from rfl]
  refine Pure.of_sw 15 Tryd.func56 rfl Tryd.ntmps56 (by kernel_rfl) (Nat.le_of_ble_eq_true (by kernel_rfl)) (by simp only [closeds, AV.closed]; exact ⟨hcc, trivial, trivial⟩) (by simp only [AV.closed]) ?_
  refine SW.of_vc ?_
  repeat first | refine opsStep ?_ | refine codeStep ?_ | refine drawStep ?_
  refine guardE_of (by show 0 + 4 ≤ t.cells.length; omega) ?_
  repeat first | refine opsStep ?_ | refine codeStep ?_ | refine drawStep ?_
  refine callP hb ?_
  repeat first | refine opsStep ?_ | refine codeStep ?_ | refine drawStep ?_
  refine decB_dec (fun h => ?_) (fun h => ?_)
  · have h : bindsV t.op < least := h
    repeat first | refine opsStep ?_ | refine codeStep ?_ | refine drawStep ?_
    refine guardE_of (by show 0 + 4 ≤ t.cells.length; omega) ?_
    repeat first | refine opsStep ?_ | refine codeStep ?_ | refine drawStep ?_
    refine callP ht ?_
    repeat first | refine opsStep ?_ | refine codeStep ?_ | refine drawStep ?_
    refine guardE_of (by show 1 + t.tx.length ≤ 9223372036854775807; omega) ?_
    repeat first | refine opsStep ?_ | refine codeStep ?_ | refine drawStep ?_
    refine guardE_of (by show ([91] ++ t.tx).length + 1 ≤ 9223372036854775807; simp only [List.length_append, List.length_singleton]; omega) ?_
    repeat first | refine opsStep ?_ | refine codeStep ?_ | refine drawStep ?_
    exact finV (v' := .str (([91] ++ t.tx) ++ [93])) (by kernel_rfl) (by rw [partS, if_pos h])
  · have h : ¬ bindsV t.op < least := h
    repeat first | refine opsStep ?_ | refine codeStep ?_ | refine drawStep ?_
    refine guardE_of (by show 0 + 4 ≤ t.cells.length; omega) ?_
    repeat first | refine opsStep ?_ | refine codeStep ?_ | refine drawStep ?_
    refine callP ht ?_
    repeat first | refine opsStep ?_ | refine codeStep ?_ | refine drawStep ?_
    exact finV (v' := .str t.tx) (by kernel_rfl) (by rw [partS, if_neg h])

end Tab

/- Texts of terms: the walk. -/
namespace Tab
open Go Go.Proofs
set_option maxRecDepth 10000
set_option linter.unusedVariables false
set_option linter.unusedSimpArgs false
set_option linter.unusedSectionVars false
set_option maxHeartbeats 1000000

theorem two_of {α : Type} : ∀ {l : List α}, l.length = 2 → ∃ a b, l = [a, b]
  | [a, b], _ => ⟨a, b, rfl⟩
theorem goodT_cases {op num : Int} {name : List UInt8} {k : SK} {args : List TT} (h : goodT ⟨op, num, name, k, args⟩ = true) :
    (op = 0 ∧ 0 ≤ num ∧ args = []) ∨ (op = 1 ∧ args = []) ∨ (op = 2 ∧ ∃ a, args = [a]) ∨ ((op = 3 ∨ op = 4 ∨ op = 5) ∧ ∃ a b, args = [a, b]) := by
  have hg : (if op = 0 then decide (0 ≤ num) && decide (name = []) && decide (args.length = 0)
    else if op = 1 then decide (num = 0) && nameS name && decide (args.length = 0)
    else if op = 2 then decide (num = 0) && decide (name = []) && decide (args.length = 1)
    else if op = 3 ∨ op = 4 ∨ op = 5 then decide (num = 0) && decide (name = []) && decide (args.length = 2)
    else false) = true := h
  clear h
  split at hg
  · simp only [Bool.and_eq_true, decide_eq_true_eq] at hg
    exact .inl ⟨by assumption, hg.1.1, List.length_eq_zero_iff.1 hg.2⟩
  split at hg
  · simp only [Bool.and_eq_true, decide_eq_true_eq] at hg
    exact .inr (.inl ⟨by assumption, List.length_eq_zero_iff.1 hg.2⟩)
  split at hg
  · simp only [Bool.and_eq_true, decide_eq_true_eq] at hg
    exact .inr (.inr (.inl ⟨by assumption, List.length_eq_one_iff.1 hg.2⟩))
  split at hg
  · simp only [Bool.and_eq_true, decide_eq_true_eq] at hg
    exact .inr (.inr (.inr ⟨by assumption, two_of hg.2⟩))
  · cases hg
theorem cell_a (a : TT) (l : List TT) : ((ttsC (a :: l)).drop ((0 : Int).toNat * 4)).take 4 = a.cells := ttsC_at (l := a :: l) (i := 0) (by simp)
theorem cell_b (a b : TT) (l : List TT) : ((ttsC (a :: b :: l)).drop ((1 : Int).toNat * 4)).take 4 = b.cells := ttsC_at (l := a :: b :: l) (i := 1) (by simp)
theorem tt_pos (t : TT) : 1 ≤ t.nodes := by cases t; rw [TT.nodes]; omega

theorem shTerm : ∀ (n : Nat) (t : TT), t.nodes ≤ n → n ≤ 500 → t.right → t.ok → Pure Tryd.prog 36 [.agg t.cells] (.str t.tx) := by
  intro n
  induction n with
  | zero => intro t h; have := tt_pos t; omega
  | succ n ih =>
    intro t hn h500 hr hok
    rw [TT.cells_eq]
    rcases t with ⟨op, num, name, k, args⟩
    rw [TT.right] at hr
    rw [TT.nodes] at hn
    rw [TT.ok] at hok
    have hnum := hok.2.1
    have hao := hok.2.2.2.2
    have har := hr.2
    simp only [TT.op, TT.num, TT.name, TT.k, TT.args]
    rcases goodT_cases hr.1 with ⟨rfl, h0, rfl⟩ | ⟨rfl, rfl⟩ | ⟨rfl, a, rfl⟩ | ⟨hop, a, b, rfl⟩
    · have htx : TT.tx ⟨0, num, name, k, []⟩ = dgL num.toNat := by rw [TT.tx, joinT, if_pos rfl]
      rw [htx]
      have hc := fmt_Int num.toNat (by have := hnum.2; omega)
      rw [Int.toNat_of_nonneg h0] at hc
      refine Pure.of_sw 62 Tryd.func36 rfl Tryd.ntmps36 (by kernel_rfl) (Nat.le_of_ble_eq_true (by kernel_rfl)) (by simp only [closeds]; exact ⟨tC_closed 0 num name k [], trivial⟩) (by simp only [AV.closed]) ?_
      refine SW.of_vc ?_
      repeat first | refine opsStep ?_ | refine codeStep ?_ | refine drawStep ?_
      refine callP hc ?_
      repeat first | refine opsStep ?_ | refine codeStep ?_ | refine drawStep ?_
      exact finV (v' := .str (dgL num.toNat)) (by kernel_rfl) rfl
    · have htx : TT.tx ⟨1, num, name, k, []⟩ = name := by rw [TT.tx, joinT, if_neg (by decide), if_pos rfl]
      rw [htx]
      refine Pure.of_sw 62 Tryd.func36 rfl Tryd.ntmps36 (by kernel_rfl) (Nat.le_of_ble_eq_true (by kernel_rfl)) (by simp only [closeds]; exact ⟨tC_closed 1 num name k [], trivial⟩) (by simp only [AV.closed]) ?_
      refine SW.of_vc ?_
      repeat first | refine opsStep ?_ | refine codeStep ?_ | refine drawStep ?_
      exact finV (v' := .str name) (by kernel_rfl) rfl
    · rw [ttsNodes, ttsNodes] at hn
      rw [ttsOk] at hao
      rw [ttsRight] at har
      have ha := ih a (by omega) (by omega) har.1 hao.1
      have la := TT.tx_small hao.1 (by omega : a.nodes ≤ 500)
      have htx : TT.tx ⟨2, num, name, k, [a]⟩ = [45] ++ partS (a.tx, a.op) 2 := by
        rw [TT.tx, joinT, if_neg (by decide), if_neg (by decide), if_pos rfl]
        rfl
      rw [htx]
      have pa := show_part a 2 ha la
      have sa := part_len (a.tx, a.op) 2
      simp only at sa
      rw [← cell_a a []] at pa
      have hf0 : 4 ≤ ((ttsC [a]).drop ((0 : Int).toNat * 4)).length := by rw [List.length_drop, ttsC_len]; simp
      refine Pure.of_sw 62 Tryd.func36 rfl Tryd.ntmps36 (by kernel_rfl) (Nat.le_of_ble_eq_true (by kernel_rfl)) (by simp only [closeds]; exact ⟨tC_closed 2 num name k [a], trivial⟩) (by simp only [AV.closed]) ?_
      refine SW.of_vc ?_
      repeat first | refine opsStep ?_ | refine codeStep ?_ | refine drawStep ?_
      refine guardE_of hf0 ?_
      repeat first | refine opsStep ?_ | refine codeStep ?_ | refine drawStep ?_
      refine callP pa ?_
      repeat first | refine opsStep ?_ | refine codeStep ?_ | refine drawStep ?_
      refine guardE_of (by show 1 + (partS (a.tx, a.op) 2).length ≤ 9223372036854775807; omega) ?_
      repeat first | refine opsStep ?_ | refine codeStep ?_ | refine drawStep ?_
      exact finV (v' := .str ([45] ++ partS (a.tx, a.op) 2)) (by kernel_rfl) rfl
    · rw [ttsNodes, ttsNodes, ttsNodes] at hn
      rw [ttsOk, ttsOk] at hao
      rw [ttsRight, ttsRight] at har
      have ha := ih a (by omega) (by omega) har.1 hao.1
      have hb := ih b (by omega) (by omega) har.2.1 hao.2.1
      have la := TT.tx_small hao.1 (by omega : a.nodes ≤ 500)
      have lb := TT.tx_small hao.2.1 (by omega : b.nodes ≤ 500)
      have hf0 : 4 ≤ ((ttsC [a, b]).drop ((0 : Int).toNat * 4)).length := by rw [List.length_drop, ttsC_len]; simp
      have hf1 : 4 ≤ ((ttsC [a, b]).drop ((1 : Int).toNat * 4)).length := by rw [List.length_drop, ttsC_len]; simp
      rcases hop with hop | hop | hop
      · subst hop
        have htx : TT.tx ⟨3, num, name, k, [a, b]⟩ = (partS (a.tx, a.op) 0 ++ [32, 43, 32]) ++ partS (b.tx, b.op) 1 := by
          rw [TT.tx, joinT]
          simp only [show ¬ ((3 : Int) = 0) by decide, show ¬ ((3 : Int) = 1) by decide, show ¬ ((3 : Int) = 2) by decide, if_false]
          rfl
        rw [htx]
        have pa := show_part a 0 ha la
        have pb := show_part b 1 hb lb
        have sa := part_len (a.tx, a.op) 0
        have sb := part_len (b.tx, b.op) 1
        simp only at sa sb
        rw [← cell_a a [b]] at pa
        rw [← cell_b a b []] at pb
        refine Pure.of_sw 62 Tryd.func36 rfl Tryd.ntmps36 (by kernel_rfl) (Nat.le_of_ble_eq_true (by kernel_rfl)) (by simp only [closeds]; exact ⟨tC_closed 3 num name k [a, b], trivial⟩) (by simp only [AV.closed]) ?_
        refine SW.of_vc ?_
        repeat first | refine opsStep ?_ | refine codeStep ?_ | refine drawStep ?_
        refine SW.drawn rfl (by kernel_rfl) ?_
        repeat first | refine opsStep ?_ | refine codeStep ?_ | refine drawStep ?_
        refine guardE_of hf0 ?_
        repeat first | refine opsStep ?_ | refine codeStep ?_ | refine drawStep ?_
        refine .inl ⟨_, _, [], pa, RdsN_refl _, .inr rfl, none_need, ?_⟩
        repeat first | refine opsStep ?_ | refine codeStep ?_ | refine drawStep ?_
        refine guardE_of (by show (partS (a.tx, a.op) 0).length + 3 ≤ 9223372036854775807; omega) ?_
        repeat first | refine opsStep ?_ | refine codeStep ?_ | refine drawStep ?_
        refine guardE_of hf1 ?_
        repeat first | refine opsStep ?_ | refine codeStep ?_ | refine drawStep ?_
        refine .inl ⟨_, _, [], pb, RdsN_refl _, .inr rfl, none_need, ?_⟩
        repeat first | refine opsStep ?_ | refine codeStep ?_ | refine drawStep ?_
        refine guardE_of (by show (partS (a.tx, a.op) 0 ++ [32, 43, 32]).length + (partS (b.tx, b.op) 1).length ≤ 9223372036854775807; simp only [List.length_append, List.length_cons, List.length_nil]; omega) ?_
        repeat first | refine opsStep ?_ | refine codeStep ?_ | refine drawStep ?_
        refine ⟨by kernel_rfl, ?_⟩
        repeat first | refine opsStep ?_ | refine codeStep ?_ | refine drawStep ?_
        exact finV (v' := .str ((partS (a.tx, a.op) 0 ++ [32, 43, 32]) ++ partS (b.tx, b.op) 1)) (by kernel_rfl) rfl
      · subst hop
        have htx : TT.tx ⟨4, num, name, k, [a, b]⟩ = (partS (a.tx, a.op) 0 ++ [32, 45, 32]) ++ partS (b.tx, b.op) 1 := by
          rw [TT.tx, joinT]
          simp only [show ¬ ((4 : Int) = 0) by decide, show ¬ ((4 : Int) = 1) by decide, show ¬ ((4 : Int) = 2) by decide, if_false]
          rfl
        rw [htx]
        have pa := show_part a 0 ha la
        have pb := show_part b 1 hb lb
        have sa := part_len (a.tx, a.op) 0
        have sb := part_len (b.tx, b.op) 1
        simp only at sa sb
        rw [← cell_a a [b]] at pa
        rw [← cell_b a b []] at pb
        refine Pure.of_sw 62 Tryd.func36 rfl Tryd.ntmps36 (by kernel_rfl) (Nat.le_of_ble_eq_true (by kernel_rfl)) (by simp only [closeds]; exact ⟨tC_closed 4 num name k [a, b], trivial⟩) (by simp only [AV.closed]) ?_
        refine SW.of_vc ?_
        repeat first | refine opsStep ?_ | refine codeStep ?_ | refine drawStep ?_
        refine SW.drawn rfl (by kernel_rfl) ?_
        repeat first | refine opsStep ?_ | refine codeStep ?_ | refine drawStep ?_
        refine guardE_of hf0 ?_
        repeat first | refine opsStep ?_ | refine codeStep ?_ | refine drawStep ?_
        refine .inl ⟨_, _, [], pa, RdsN_refl _, .inr rfl, none_need, ?_⟩
        repeat first | refine opsStep ?_ | refine codeStep ?_ | refine drawStep ?_
        refine guardE_of (by show (partS (a.tx, a.op) 0).length + 3 ≤ 9223372036854775807; omega) ?_
        repeat first | refine opsStep ?_ | refine codeStep ?_ | refine drawStep ?_
        refine guardE_of hf1 ?_
        repeat first | refine opsStep ?_ | refine codeStep ?_ | refine drawStep ?_
        refine .inl ⟨_, _, [], pb, RdsN_refl _, .inr rfl, none_need, ?_⟩
        repeat first | refine opsStep ?_ | refine codeStep ?_ | refine drawStep ?_
        refine guardE_of (by show (partS (a.tx, a.op) 0 ++ [32, 45, 32]).length + (partS (b.tx, b.op) 1).length ≤ 9223372036854775807; simp only [List.length_append, List.length_cons, List.length_nil]; omega) ?_
        repeat first | refine opsStep ?_ | refine codeStep ?_ | refine drawStep ?_
        refine ⟨by kernel_rfl, ?_⟩
        repeat first | refine opsStep ?_ | refine codeStep ?_ | refine drawStep ?_
        exact finV (v' := .str ((partS (a.tx, a.op) 0 ++ [32, 45, 32]) ++ partS (b.tx, b.op) 1)) (by kernel_rfl) rfl
      · subst hop
        have htx : TT.tx ⟨5, num, name, k, [a, b]⟩ = (partS (a.tx, a.op) 1 ++ [32, 42, 32]) ++ partS (b.tx, b.op) 2 := by
          rw [TT.tx, joinT]
          simp only [show ¬ ((5 : Int) = 0) by decide, show ¬ ((5 : Int) = 1) by decide, show ¬ ((5 : Int) = 2) by decide, if_false]
          rfl
        rw [htx]
        have pa := show_part a 1 ha la
        have pb := show_part b 2 hb lb
        have sa := part_len (a.tx, a.op) 1
        have sb := part_len (b.tx, b.op) 2
        simp only at sa sb
        rw [← cell_a a [b]] at pa
        rw [← cell_b a b []] at pb
        refine Pure.of_sw 62 Tryd.func36 rfl Tryd.ntmps36 (by kernel_rfl) (Nat.le_of_ble_eq_true (by kernel_rfl)) (by simp only [closeds]; exact ⟨tC_closed 5 num name k [a, b], trivial⟩) (by simp only [AV.closed]) ?_
        refine SW.of_vc ?_
        repeat first | refine opsStep ?_ | refine codeStep ?_ | refine drawStep ?_
        refine SW.drawn rfl (by kernel_rfl) ?_
        repeat first | refine opsStep ?_ | refine codeStep ?_ | refine drawStep ?_
        refine guardE_of hf0 ?_
        repeat first | refine opsStep ?_ | refine codeStep ?_ | refine drawStep ?_
        refine .inl ⟨_, _, [], pa, RdsN_refl _, .inr rfl, none_need, ?_⟩
        repeat first | refine opsStep ?_ | refine codeStep ?_ | refine drawStep ?_
        refine guardE_of (by show (partS (a.tx, a.op) 1).length + 3 ≤ 9223372036854775807; omega) ?_
        repeat first | refine opsStep ?_ | refine codeStep ?_ | refine drawStep ?_
        refine guardE_of hf1 ?_
        repeat first | refine opsStep ?_ | refine codeStep ?_ | refine drawStep ?_
        refine .inl ⟨_, _, [], pb, RdsN_refl _, .inr rfl, none_need, ?_⟩
        repeat first | refine opsStep ?_ | refine codeStep ?_ | refine drawStep ?_
        refine guardE_of (by show (partS (a.tx, a.op) 1 ++ [32, 42, 32]).length + (partS (b.tx, b.op) 2).length ≤ 9223372036854775807; simp only [List.length_append, List.length_cons, List.length_nil]; omega) ?_
        repeat first | refine opsStep ?_ | refine codeStep ?_ | refine drawStep ?_
        refine ⟨by kernel_rfl, ?_⟩
        repeat first | refine opsStep ?_ | refine codeStep ?_ | refine drawStep ?_
        exact finV (v' := .str ((partS (a.tx, a.op) 1 ++ [32, 42, 32]) ++ partS (b.tx, b.op) 2)) (by kernel_rfl) rfl

theorem show_Term (t : TT) (hok : t.ok) : Pure Tryd.prog 17 [.agg t.cells] (.tup [.str (if chkT t = 0 then t.tx else []), .int .i64 (chkT t)]) := by
  have hck := tree_CheckTerm t hok
  have hst : chkT t = 0 → Pure Tryd.prog 36 [.agg t.cells] (.str t.tx) := fun h => by
    obtain ⟨h1, h2⟩ := chkT_right h
    exact shTerm _ t (Nat.le_refl _) h2 h1 hok
  have hcl : (t.cells.drop 0).take 4 = t.cells := by rw [List.drop_zero, List.take_of_length_le (by rw [TT.cells_len]; omega)]
  have hlen := TT.cells_len t
  have hcc := TT.cells_closed t
  generalize chkT t = c at *
  generalize t.tx = x at *
  generalize t.cells = y at *
  rw [← hcl] at hck hst
  refine Pure.of_sw 12 Tryd.func17 rfl Tryd.ntmps17 (by kernel_rfl) (Nat.le_of_ble_eq_true (by kernel_rfl)) (by simp only [closeds, AV.closed]; exact ⟨hcc, trivial⟩) (by simp only [AV.closed, closeds]; exact ⟨trivial, trivial, trivial⟩) ?_
  refine SW.of_vc ?_
  repeat first | refine opsStep ?_ | refine codeStep ?_ | refine drawStep ?_
  refine guardE_of (by show 0 + 4 ≤ y.length; omega) ?_
  repeat first | refine opsStep ?_ | refine codeStep ?_ | refine drawStep ?_
  refine callP (args := [.agg ((y.drop 0).take 4)]) hck ?_
  repeat first | refine opsStep ?_ | refine codeStep ?_ | refine drawStep ?_
  refine decB_dec (fun h => ?_) (fun h => ?_)
  · have h : c ≠ 0 := h
    repeat first | refine opsStep ?_ | refine codeStep ?_ | refine drawStep ?_
    exact finV (v' := .tup [.str [], .int .i64 c]) (by kernel_rfl) (by rw [if_neg h])
  · have h : c = 0 := Decidable.of_not_not h
    repeat first | refine opsStep ?_ | refine codeStep ?_ | refine drawStep ?_
    refine guardE_of (by show 0 + 4 ≤ y.length; omega) ?_
    repeat first | refine opsStep ?_ | refine codeStep ?_ | refine drawStep ?_
    refine callP (args := [.agg ((y.drop 0).take 4)]) (hst h) ?_
    repeat first | refine opsStep ?_ | refine codeStep ?_ | refine drawStep ?_
    exact finV (v' := .tup [.str x, .int .i64 0]) (by kernel_rfl) (by rw [if_pos h, h])

end Tab

/- Texts of formulas. -/
namespace Tab
open Go Go.Proofs
set_option maxRecDepth 10000
set_option linter.unusedVariables false
set_option linter.unusedSimpArgs false
set_option linter.unusedSectionVars false
set_option maxHeartbeats 1000000

theorem show_sign (op : Int) : Pure Tryd.prog 51 [.int .i64 op] (.str (signF op)) := by
  refine Pure.of_sw 24 Tryd.func51 rfl Tryd.ntmps51 (by kernel_rfl) (Nat.le_of_ble_eq_true (by kernel_rfl)) (by simp [closeds, AV.closed, aSs_closed, aIs_closed, aBs_closed, aRs_closed, aDen_closed]) (by simp [AV.closed, closeds, aSs_closed, aIs_closed, aBs_closed, aRs_closed, aDen_closed]) ?_; refine SW.of_vc ?_
  repeat' first | refine opsStep ?_ | refine codeStep ?_ | refine decB_split (fun h => ?_) (fun h => ?_)
  all_goals first
    | (have e := of_decide_eq_true h; subst e; exact finV rfl rfl)
    | exact finV (v := .str (signF op)) (v' := .str [32, 126, 32]) rfl (by simp only [decide_eq_false_iff_not] at *; simp [signF, *])

theorem fsign_len (op : Int) : (signF op).length ≤ 10 := by
  unfold signF
  repeat' split
  all_goals simp
def fsumL : List (List UInt8) → Nat
  | [] => 0
  | x :: l => x.length + fsumL l
theorem fsum_two (l : List (List UInt8)) : (l.getD 0 []).length + (l.getD 1 []).length ≤ fsumL l := by
  match l with
  | [] => simp [fsumL]
  | [a] => simp [fsumL]
  | a :: b :: l => simp [fsumL] <;> omega
theorem fsum_tts (l : List TT) (h : ttsOk l) : fsumL (l.map TT.tx) ≤ ttsNodes l * txK := by
  induction l with
  | nil => simp [fsumL, ttsNodes]
  | cons t l ih =>
    rw [ttsOk] at h
    have h1 := TT.tx_len t h.1
    have h2 := ih h.2
    rw [List.map_cons, fsumL, ttsNodes, Nat.add_mul]
    omega
theorem joinF_len (op : Int) (name : List UInt8) (md : Int) (ts l : List (List UInt8)) (hn : okI6 md) (hm : name.length ≤ 2 ^ 47) : (joinF op name md ts l).length ≤ fsumL ts + fsumL l + txK := by
  have h1 := fsum_two ts
  have h2 := fsum_two l
  have hk : txK = 2 ^ 47 + 64 := rfl
  have h3 := fsign_len op
  have h4 := dg_lenU 18 md.toNat (by have := hn.2; omega)
  rw [joinF]
  repeat' split
  all_goals (simp only [List.length_append, List.length_cons, List.length_nil]; omega)
mutual
theorem FT.tx_len : ∀ t : FT, t.ok → t.tx.length ≤ t.nodes * txK
  | .mk op name md tk terms ak args, h => by
    rw [FT.ok] at h
    have h1 := ftsTx_len args h.2.2.2.2.2.2
    have h0 := fsum_tts terms h.2.2.2.2.1
    have h2 := joinF_len op name md (terms.map TT.tx) (ftsTx args) h.2.2.1 h.2.1
    rw [FT.tx, FT.nodes, Nat.add_mul, Nat.add_mul, Nat.one_mul]
    omega
theorem ftsTx_len : ∀ l : List FT, ftsOk l → fsumL (ftsTx l) ≤ ftsNodes l * txK
  | [], _ => by simp [ftsTx, fsumL, ftsNodes]
  | t :: l, h => by
    rw [ftsOk] at h
    have h1 := FT.tx_len t h.1
    have h2 := ftsTx_len l h.2
    rw [ftsTx, fsumL, ftsNodes, Nat.add_mul]
    omega
end
theorem FT.tx_small {t : FT} (h : t.ok) (hn : t.nodes ≤ 500) : t.tx.length < 2 ^ 60 := by
  have h1 := FT.tx_len t h
  have h2 : t.nodes * txK ≤ 500 * txK := Nat.mul_le_mul_right _ hn
  have hk : txK = 2 ^ 47 + 64 := rfl
  omega
theorem ft_pos (t : FT) : 1 ≤ t.nodes := by cases t; rw [FT.nodes]; omega
theorem fcell_a (a : FT) (l : List FT) : ((ftsC (a :: l)).drop ((0 : Int).toNat * 5)).take 5 = a.cells := ftsC_at (l := a :: l) (i := 0) (by simp)
theorem fcell_b (a b : FT) (l : List FT) : ((ftsC (a :: b :: l)).drop ((1 : Int).toNat * 5)).take 5 = b.cells := ftsC_at (l := a :: b :: l) (i := 1) (by simp)
theorem goodF_cases {op : Int} {name : List UInt8} {md : Int} {tk : SK} {terms : List TT} {ak : SK} {args : List FT} (h : goodF ⟨op, name, md, tk, terms, ak, args⟩ = true) :
    ((op = 0 ∨ op = 1) ∧ terms = [] ∧ args = []) ∨ (op = 2 ∧ terms = [] ∧ ∃ a, args = [a]) ∨ ((op = 3 ∨ op = 4 ∨ op = 5 ∨ op = 6) ∧ terms = [] ∧ ∃ a b, args = [a, b]) ∨ ((op = 7 ∨ op = 8) ∧ terms = [] ∧ ∃ a, args = [a]) ∨
    ((op = 9 ∨ op = 10 ∨ op = 11 ∨ op = 12 ∨ op = 13 ∨ op = 14) ∧ args = [] ∧ ∃ a b, terms = [a, b]) ∨ (op = 15 ∧ 1 ≤ md ∧ args = [] ∧ ∃ a b, terms = [a, b]) := by
  have hg : (if op = 0 ∨ op = 1 then decide (name = []) && decide (md = 0) && decide (terms.length = 0) && decide (args.length = 0)
    else if op = 2 then decide (name = []) && decide (md = 0) && decide (terms.length = 0) && decide (args.length = 1)
    else if 3 ≤ op ∧ op ≤ 6 then decide (name = []) && decide (md = 0) && decide (terms.length = 0) && decide (args.length = 2)
    else if op = 7 ∨ op = 8 then nameS name && decide (md = 0) && decide (terms.length = 0) && decide (args.length = 1)
    else if 9 ≤ op ∧ op ≤ 14 then decide (name = []) && decide (md = 0) && decide (terms.length = 2) && decide (args.length = 0)
    else if op = 15 then decide (name = []) && decide (1 ≤ md) && decide (terms.length = 2) && decide (args.length = 0)
    else false) = true := h
  clear h
  split at hg
  · simp only [Bool.and_eq_true, decide_eq_true_eq] at hg
    exact .inl ⟨by assumption, List.length_eq_zero_iff.1 hg.1.2, List.length_eq_zero_iff.1 hg.2⟩
  split at hg
  · simp only [Bool.and_eq_true, decide_eq_true_eq] at hg
    exact .inr (.inl ⟨by assumption, List.length_eq_zero_iff.1 hg.1.2, List.length_eq_one_iff.1 hg.2⟩)
  split at hg
  · simp only [Bool.and_eq_true, decide_eq_true_eq] at hg
    exact .inr (.inr (.inl ⟨by omega, List.length_eq_zero_iff.1 hg.1.2, two_of hg.2⟩))
  split at hg
  · simp only [Bool.and_eq_true, decide_eq_true_eq] at hg
    exact .inr (.inr (.inr (.inl ⟨by assumption, List.length_eq_zero_iff.1 hg.1.2, List.length_eq_one_iff.1 hg.2⟩)))
  split at hg
  · simp only [Bool.and_eq_true, decide_eq_true_eq] at hg
    exact .inr (.inr (.inr (.inr (.inl ⟨by omega, List.length_eq_zero_iff.1 hg.2, two_of hg.1.2⟩))))
  split at hg
  · simp only [Bool.and_eq_true, decide_eq_true_eq] at hg
    exact .inr (.inr (.inr (.inr (.inr ⟨by assumption, hg.1.1.2, List.length_eq_zero_iff.1 hg.2, two_of hg.1.2⟩))))
  · cases hg

end Tab

/- Texts of formulas: the walk. -/
namespace Tab
open Go Go.Proofs
set_option maxRecDepth 10000
set_option linter.unusedVariables false
set_option linter.unusedSimpArgs false
set_option linter.unusedSectionVars false
set_option maxHeartbeats 2000000

theorem shFormula : ∀ (n : Nat) (f : FT), f.nodes ≤ n → n ≤ 500 → f.right → f.ok → Pure Tryd.prog 32 [.agg f.cells] (.str f.tx) := by
  intro n
  induction n with
  | zero => intro t h; have := ft_pos t; omega
  | succ n ih =>
    intro f hn h500 hr hok
    rw [FT.cells_eq]
    rcases f with ⟨op, name, md, tk, terms, ak, args⟩
    rw [FT.right] at hr
    rw [FT.nodes] at hn
    rw [FT.ok] at hok
    have hnm := hok.2.1
    have hmd := hok.2.2.1
    have hto := hok.2.2.2.2.1
    have hao := hok.2.2.2.2.2.2
    have htr := hr.2.1
    have har := hr.2.2
    simp only [FT.op, FT.name, FT.md, FT.tk, FT.terms, FT.ak, FT.args]
    rcases goodF_cases hr.1 with ⟨hop, rfl, rfl⟩ | ⟨rfl, rfl, a, rfl⟩ | ⟨hop, rfl, a, b, rfl⟩ | ⟨hop, rfl, a, rfl⟩ | ⟨hop, rfl, a, b, rfl⟩ | ⟨rfl, h1, rfl, a, b, rfl⟩
    · rcases hop with rfl | rfl
      · have htx : FT.tx ⟨0, name, md, tk, [], ak, []⟩ = [116, 114, 117, 101] := by rw [FT.tx, joinF, if_pos rfl]
        rw [htx]
        refine Pure.of_sw 97 Tryd.func32 rfl Tryd.ntmps32 (by kernel_rfl) (Nat.le_of_ble_eq_true (by kernel_rfl)) (by simp only [closeds]; exact ⟨fC5_closed 0 name md tk [] ak [], trivial⟩) (by simp only [AV.closed]) ?_
        refine SW.of_vc ?_
        repeat first | refine opsStep ?_ | refine codeStep ?_ | refine drawStep ?_
        exact finV (v' := .str [116, 114, 117, 101]) (by kernel_rfl) rfl
      · have htx : FT.tx ⟨1, name, md, tk, [], ak, []⟩ = [102, 97, 108, 115, 101] := by rw [FT.tx, joinF, if_neg (by decide), if_pos rfl]
        rw [htx]
        refine Pure.of_sw 97 Tryd.func32 rfl Tryd.ntmps32 (by kernel_rfl) (Nat.le_of_ble_eq_true (by kernel_rfl)) (by simp only [closeds]; exact ⟨fC5_closed 1 name md tk [] ak [], trivial⟩) (by simp only [AV.closed]) ?_
        refine SW.of_vc ?_
        repeat first | refine opsStep ?_ | refine codeStep ?_ | refine drawStep ?_
        exact finV (v' := .str [102, 97, 108, 115, 101]) (by kernel_rfl) rfl
    · rw [ftsNodes, ftsNodes] at hn
      rw [ftsOk] at hao
      rw [ftsRight] at har
      have ha' := ih a (by omega) (by omega) har.1 hao.1
      have la := FT.tx_small hao.1 (by omega : a.nodes ≤ 500)
      have hf0 : 5 ≤ ((ftsC [a]).drop ((0 : Int).toNat * 5)).length := by rw [List.length_drop, ftsC_len]; simp
      rw [← fcell_a a []] at ha'
      have htx : FT.tx ⟨2, name, md, tk, [], ak, [a]⟩ = [110, 111, 116, 32] ++ a.tx := by
        rw [FT.tx, joinF, if_neg (by decide), if_neg (by decide), if_pos rfl]
        rfl
      rw [htx]
      refine Pure.of_sw 97 Tryd.func32 rfl Tryd.ntmps32 (by kernel_rfl) (Nat.le_of_ble_eq_true (by kernel_rfl)) (by simp only [closeds]; exact ⟨fC5_closed 2 name md tk [] ak [a], trivial⟩) (by simp only [AV.closed]) ?_
      refine SW.of_vc ?_
      repeat first | refine opsStep ?_ | refine codeStep ?_ | refine drawStep ?_
      refine guardE_of hf0 ?_
      repeat first | refine opsStep ?_ | refine codeStep ?_ | refine drawStep ?_
      refine callP ha' ?_
      repeat first | refine opsStep ?_ | refine codeStep ?_ | refine drawStep ?_
      refine guardE_of (by show 4 + a.tx.length ≤ 9223372036854775807; omega) ?_
      repeat first | refine opsStep ?_ | refine codeStep ?_ | refine drawStep ?_
      exact finV (v' := .str ([110, 111, 116, 32] ++ a.tx)) (by kernel_rfl) rfl
    · rw [ftsNodes, ftsNodes, ftsNodes] at hn
      rw [ftsOk, ftsOk] at hao
      rw [ftsRight, ftsRight] at har
      have ha' := ih a (by omega) (by omega) har.1 hao.1
      have hb' := ih b (by omega) (by omega) har.2.1 hao.2.1
      have la := FT.tx_small hao.1 (by omega : a.nodes ≤ 500)
      have lb := FT.tx_small hao.2.1 (by omega : b.nodes ≤ 500)
      have hf0 : 5 ≤ ((ftsC [a, b]).drop ((0 : Int).toNat * 5)).length := by rw [List.length_drop, ftsC_len]; simp
      have hf1 : 5 ≤ ((ftsC [a, b]).drop ((1 : Int).toNat * 5)).length := by rw [List.length_drop, ftsC_len]; simp
      rw [← fcell_a a [b]] at ha'
      rw [← fcell_b a b []] at hb'
      rcases hop with hop | hop | hop | hop
      · subst hop
        have htx : FT.tx ⟨3, name, md, tk, [], ak, [a, b]⟩ = ((([40] ++ a.tx) ++ signF 3) ++ b.tx) ++ [41] := by
          rw [FT.tx, joinF]
          simp only [show ¬ ((3 : Int) = 0) by decide, show ¬ ((3 : Int) = 1) by decide, show ¬ ((3 : Int) = 2) by decide, show ¬ ((3 : Int) = 7) by decide, show ¬ ((3 : Int) = 8) by decide, show ((3 : Int) ≤ 3 ∧ (3 : Int) ≤ 6) by decide, if_false, if_true]
          rfl
        rw [htx]
        have hsg := fsign_len 3
        refine Pure.of_sw 97 Tryd.func32 rfl Tryd.ntmps32 (by kernel_rfl) (Nat.le_of_ble_eq_true (by kernel_rfl)) (by simp only [closeds]; exact ⟨fC5_closed 3 name md tk [] ak [a, b], trivial⟩) (by simp only [AV.closed]) ?_
        refine SW.of_vc ?_
        repeat first | refine opsStep ?_ | refine codeStep ?_ | refine drawStep ?_
        refine SW.drawn rfl (by kernel_rfl) ?_
        repeat first | refine opsStep ?_ | refine codeStep ?_ | refine drawStep ?_
        refine guardE_of hf0 ?_
        repeat first | refine opsStep ?_ | refine codeStep ?_ | refine drawStep ?_
        refine .inl ⟨_, _, [], ha', RdsN_refl _, .inr rfl, none_need, ?_⟩
        repeat first | refine opsStep ?_ | refine codeStep ?_ | refine drawStep ?_
        refine guardE_of (by show 1 + a.tx.length ≤ 9223372036854775807; omega) ?_
        repeat first | refine opsStep ?_ | refine codeStep ?_ | refine drawStep ?_
        refine .inl ⟨_, _, [], (show_sign 3), RdsN_refl _, .inr rfl, none_need, ?_⟩
        repeat first | refine opsStep ?_ | refine codeStep ?_ | refine drawStep ?_
        refine guardE_of (by show ([40] ++ a.tx).length + (signF 3).length ≤ 9223372036854775807; simp only [List.length_append, List.length_cons, List.length_nil]; omega) ?_
        repeat first | refine opsStep ?_ | refine codeStep ?_ | refine drawStep ?_
        refine guardE_of hf1 ?_
        repeat first | refine opsStep ?_ | refine codeStep ?_ | refine drawStep ?_
        refine .inl ⟨_, _, [], hb', RdsN_refl _, .inr rfl, none_need, ?_⟩
        repeat first | refine opsStep ?_ | refine codeStep ?_ | refine drawStep ?_
        refine guardE_of (by show (([40] ++ a.tx) ++ signF 3).length + b.tx.length ≤ 9223372036854775807; simp only [List.length_append, List.length_cons, List.length_nil]; omega) ?_
        repeat first | refine opsStep ?_ | refine codeStep ?_ | refine drawStep ?_
        refine guardE_of (by show ((([40] ++ a.tx) ++ signF 3) ++ b.tx).length + 1 ≤ 9223372036854775807; simp only [List.length_append, List.length_cons, List.length_nil]; omega) ?_
        repeat first | refine opsStep ?_ | refine codeStep ?_ | refine drawStep ?_
        refine ⟨by kernel_rfl, ?_⟩
        repeat first | refine opsStep ?_ | refine codeStep ?_ | refine drawStep ?_
        exact finV (v' := .str (((([40] ++ a.tx) ++ signF 3) ++ b.tx) ++ [41])) (by kernel_rfl) rfl
      · subst hop
        have htx : FT.tx ⟨4, name, md, tk, [], ak, [a, b]⟩ = ((([40] ++ a.tx) ++ signF 4) ++ b.tx) ++ [41] := by
          rw [FT.tx, joinF]
          simp only [show ¬ ((4 : Int) = 0) by decide, show ¬ ((4 : Int) = 1) by decide, show ¬ ((4 : Int) = 2) by decide, show ¬ ((4 : Int) = 7) by decide, show ¬ ((4 : Int) = 8) by decide, show ((3 : Int) ≤ 4 ∧ (4 : Int) ≤ 6) by decide, if_false, if_true]
          rfl
        rw [htx]
        have hsg := fsign_len 4
        refine Pure.of_sw 97 Tryd.func32 rfl Tryd.ntmps32 (by kernel_rfl) (Nat.le_of_ble_eq_true (by kernel_rfl)) (by simp only [closeds]; exact ⟨fC5_closed 4 name md tk [] ak [a, b], trivial⟩) (by simp only [AV.closed]) ?_
        refine SW.of_vc ?_
        repeat first | refine opsStep ?_ | refine codeStep ?_ | refine drawStep ?_
        refine SW.drawn rfl (by kernel_rfl) ?_
        repeat first | refine opsStep ?_ | refine codeStep ?_ | refine drawStep ?_
        refine guardE_of hf0 ?_
        repeat first | refine opsStep ?_ | refine codeStep ?_ | refine drawStep ?_
        refine .inl ⟨_, _, [], ha', RdsN_refl _, .inr rfl, none_need, ?_⟩
        repeat first | refine opsStep ?_ | refine codeStep ?_ | refine drawStep ?_
        refine guardE_of (by show 1 + a.tx.length ≤ 9223372036854775807; omega) ?_
        repeat first | refine opsStep ?_ | refine codeStep ?_ | refine drawStep ?_
        refine .inl ⟨_, _, [], (show_sign 4), RdsN_refl _, .inr rfl, none_need, ?_⟩
        repeat first | refine opsStep ?_ | refine codeStep ?_ | refine drawStep ?_
        refine guardE_of (by show ([40] ++ a.tx).length + (signF 4).length ≤ 9223372036854775807; simp only [List.length_append, List.length_cons, List.length_nil]; omega) ?_
        repeat first | refine opsStep ?_ | refine codeStep ?_ | refine drawStep ?_
        refine guardE_of hf1 ?_
        repeat first | refine opsStep ?_ | refine codeStep ?_ | refine drawStep ?_
        refine .inl ⟨_, _, [], hb', RdsN_refl _, .inr rfl, none_need, ?_⟩
        repeat first | refine opsStep ?_ | refine codeStep ?_ | refine drawStep ?_
        refine guardE_of (by show (([40] ++ a.tx) ++ signF 4).length + b.tx.length ≤ 9223372036854775807; simp only [List.length_append, List.length_cons, List.length_nil]; omega) ?_
        repeat first | refine opsStep ?_ | refine codeStep ?_ | refine drawStep ?_
        refine guardE_of (by show ((([40] ++ a.tx) ++ signF 4) ++ b.tx).length + 1 ≤ 9223372036854775807; simp only [List.length_append, List.length_cons, List.length_nil]; omega) ?_
        repeat first | refine opsStep ?_ | refine codeStep ?_ | refine drawStep ?_
        refine ⟨by kernel_rfl, ?_⟩
        repeat first | refine opsStep ?_ | refine codeStep ?_ | refine drawStep ?_
        exact finV (v' := .str (((([40] ++ a.tx) ++ signF 4) ++ b.tx) ++ [41])) (by kernel_rfl) rfl
      · subst hop
        have htx : FT.tx ⟨5, name, md, tk, [], ak, [a, b]⟩ = ((([40] ++ a.tx) ++ signF 5) ++ b.tx) ++ [41] := by
          rw [FT.tx, joinF]
          simp only [show ¬ ((5 : Int) = 0) by decide, show ¬ ((5 : Int) = 1) by decide, show ¬ ((5 : Int) = 2) by decide, show ¬ ((5 : Int) = 7) by decide, show ¬ ((5 : Int) = 8) by decide, show ((3 : Int) ≤ 5 ∧ (5 : Int) ≤ 6) by decide, if_false, if_true]
          rfl
        rw [htx]
        have hsg := fsign_len 5
        refine Pure.of_sw 97 Tryd.func32 rfl Tryd.ntmps32 (by kernel_rfl) (Nat.le_of_ble_eq_true (by kernel_rfl)) (by simp only [closeds]; exact ⟨fC5_closed 5 name md tk [] ak [a, b], trivial⟩) (by simp only [AV.closed]) ?_
        refine SW.of_vc ?_
        repeat first | refine opsStep ?_ | refine codeStep ?_ | refine drawStep ?_
        refine SW.drawn rfl (by kernel_rfl) ?_
        repeat first | refine opsStep ?_ | refine codeStep ?_ | refine drawStep ?_
        refine guardE_of hf0 ?_
        repeat first | refine opsStep ?_ | refine codeStep ?_ | refine drawStep ?_
        refine .inl ⟨_, _, [], ha', RdsN_refl _, .inr rfl, none_need, ?_⟩
        repeat first | refine opsStep ?_ | refine codeStep ?_ | refine drawStep ?_
        refine guardE_of (by show 1 + a.tx.length ≤ 9223372036854775807; omega) ?_
        repeat first | refine opsStep ?_ | refine codeStep ?_ | refine drawStep ?_
        refine .inl ⟨_, _, [], (show_sign 5), RdsN_refl _, .inr rfl, none_need, ?_⟩
        repeat first | refine opsStep ?_ | refine codeStep ?_ | refine drawStep ?_
        refine guardE_of (by show ([40] ++ a.tx).length + (signF 5).length ≤ 9223372036854775807; simp only [List.length_append, List.length_cons, List.length_nil]; omega) ?_
        repeat first | refine opsStep ?_ | refine codeStep ?_ | refine drawStep ?_
        refine guardE_of hf1 ?_
        repeat first | refine opsStep ?_ | refine codeStep ?_ | refine drawStep ?_
        refine .inl ⟨_, _, [], hb', RdsN_refl _, .inr rfl, none_need, ?_⟩
        repeat first | refine opsStep ?_ | refine codeStep ?_ | refine drawStep ?_
        refine guardE_of (by show (([40] ++ a.tx) ++ signF 5).length + b.tx.length ≤ 9223372036854775807; simp only [List.length_append, List.length_cons, List.length_nil]; omega) ?_
        repeat first | refine opsStep ?_ | refine codeStep ?_ | refine drawStep ?_
        refine guardE_of (by show ((([40] ++ a.tx) ++ signF 5) ++ b.tx).length + 1 ≤ 9223372036854775807; simp only [List.length_append, List.length_cons, List.length_nil]; omega) ?_
        repeat first | refine opsStep ?_ | refine codeStep ?_ | refine drawStep ?_
        refine ⟨by kernel_rfl, ?_⟩
        repeat first | refine opsStep ?_ | refine codeStep ?_ | refine drawStep ?_
        exact finV (v' := .str (((([40] ++ a.tx) ++ signF 5) ++ b.tx) ++ [41])) (by kernel_rfl) rfl
      · subst hop
        have htx : FT.tx ⟨6, name, md, tk, [], ak, [a, b]⟩ = ((([40] ++ a.tx) ++ signF 6) ++ b.tx) ++ [41] := by
          rw [FT.tx, joinF]
          simp only [show ¬ ((6 : Int) = 0) by decide, show ¬ ((6 : Int) = 1) by decide, show ¬ ((6 : Int) = 2) by decide, show ¬ ((6 : Int) = 7) by decide, show ¬ ((6 : Int) = 8) by decide, show ((3 : Int) ≤ 6 ∧ (6 : Int) ≤ 6) by decide, if_false, if_true]
          rfl
        rw [htx]
        have hsg := fsign_len 6
        refine Pure.of_sw 97 Tryd.func32 rfl Tryd.ntmps32 (by kernel_rfl) (Nat.le_of_ble_eq_true (by kernel_rfl)) (by simp only [closeds]; exact ⟨fC5_closed 6 name md tk [] ak [a, b], trivial⟩) (by simp only [AV.closed]) ?_
        refine SW.of_vc ?_
        repeat first | refine opsStep ?_ | refine codeStep ?_ | refine drawStep ?_
        refine SW.drawn rfl (by kernel_rfl) ?_
        repeat first | refine opsStep ?_ | refine codeStep ?_ | refine drawStep ?_
        refine guardE_of hf0 ?_
        repeat first | refine opsStep ?_ | refine codeStep ?_ | refine drawStep ?_
        refine .inl ⟨_, _, [], ha', RdsN_refl _, .inr rfl, none_need, ?_⟩
        repeat first | refine opsStep ?_ | refine codeStep ?_ | refine drawStep ?_
        refine guardE_of (by show 1 + a.tx.length ≤ 9223372036854775807; omega) ?_
        repeat first | refine opsStep ?_ | refine codeStep ?_ | refine drawStep ?_
        refine .inl ⟨_, _, [], (show_sign 6), RdsN_refl _, .inr rfl, none_need, ?_⟩
        repeat first | refine opsStep ?_ | refine codeStep ?_ | refine drawStep ?_
        refine guardE_of (by show ([40] ++ a.tx).length + (signF 6).length ≤ 9223372036854775807; simp only [List.length_append, List.length_cons, List.length_nil]; omega) ?_
        repeat first | refine opsStep ?_ | refine codeStep ?_ | refine drawStep ?_
        refine guardE_of hf1 ?_
        repeat first | refine opsStep ?_ | refine codeStep ?_ | refine drawStep ?_
        refine .inl ⟨_, _, [], hb', RdsN_refl _, .inr rfl, none_need, ?_⟩
        repeat first | refine opsStep ?_ | refine codeStep ?_ | refine drawStep ?_
        refine guardE_of (by show (([40] ++ a.tx) ++ signF 6).length + b.tx.length ≤ 9223372036854775807; simp only [List.length_append, List.length_cons, List.length_nil]; omega) ?_
        repeat first | refine opsStep ?_ | refine codeStep ?_ | refine drawStep ?_
        refine guardE_of (by show ((([40] ++ a.tx) ++ signF 6) ++ b.tx).length + 1 ≤ 9223372036854775807; simp only [List.length_append, List.length_cons, List.length_nil]; omega) ?_
        repeat first | refine opsStep ?_ | refine codeStep ?_ | refine drawStep ?_
        refine ⟨by kernel_rfl, ?_⟩
        repeat first | refine opsStep ?_ | refine codeStep ?_ | refine drawStep ?_
        exact finV (v' := .str (((([40] ++ a.tx) ++ signF 6) ++ b.tx) ++ [41])) (by kernel_rfl) rfl
    · rw [ftsNodes, ftsNodes] at hn
      rw [ftsOk] at hao
      rw [ftsRight] at har
      have ha' := ih a (by omega) (by omega) har.1 hao.1
      have la := FT.tx_small hao.1 (by omega : a.nodes ≤ 500)
      have hf0 : 5 ≤ ((ftsC [a]).drop ((0 : Int).toNat * 5)).length := by rw [List.length_drop, ftsC_len]; simp
      rw [← fcell_a a []] at ha'
      rcases hop with hop | hop
      · subst hop
        have htx : FT.tx ⟨7, name, md, tk, [], ak, [a]⟩ = (([101, 120, 32] ++ name) ++ [46, 32]) ++ a.tx := by
          rw [FT.tx, joinF]
          simp only [show ¬ ((7 : Int) = 0) by decide, show ¬ ((7 : Int) = 1) by decide, show ¬ ((7 : Int) = 2) by decide, show ¬ ((8 : Int) = 7) by decide, if_false, if_true]
          rfl
        rw [htx]
        refine Pure.of_sw 97 Tryd.func32 rfl Tryd.ntmps32 (by kernel_rfl) (Nat.le_of_ble_eq_true (by kernel_rfl)) (by simp only [closeds]; exact ⟨fC5_closed 7 name md tk [] ak [a], trivial⟩) (by simp only [AV.closed]) ?_
        refine SW.of_vc ?_
        repeat first | refine opsStep ?_ | refine codeStep ?_ | refine drawStep ?_
        refine SW.drawn rfl (by kernel_rfl) ?_
        repeat first | refine opsStep ?_ | refine codeStep ?_ | refine drawStep ?_
        refine guardE_of (by show 3 + name.length ≤ 9223372036854775807; omega) ?_
        repeat first | refine opsStep ?_ | refine codeStep ?_ | refine drawStep ?_
        refine guardE_of (by show ([101, 120, 32] ++ name).length + 2 ≤ 9223372036854775807; simp only [List.length_append, List.length_cons, List.length_nil]; omega) ?_
        repeat first | refine opsStep ?_ | refine codeStep ?_ | refine drawStep ?_
        refine guardE_of hf0 ?_
        repeat first | refine opsStep ?_ | refine codeStep ?_ | refine drawStep ?_
        refine .inl ⟨_, _, [], ha', RdsN_refl _, .inr rfl, none_need, ?_⟩
        repeat first | refine opsStep ?_ | refine codeStep ?_ | refine drawStep ?_
        refine guardE_of (by show (([101, 120, 32] ++ name) ++ [46, 32]).length + a.tx.length ≤ 9223372036854775807; simp only [List.length_append, List.length_cons, List.length_nil]; omega) ?_
        repeat first | refine opsStep ?_ | refine codeStep ?_ | refine drawStep ?_
        refine ⟨by kernel_rfl, ?_⟩
        repeat first | refine opsStep ?_ | refine codeStep ?_ | refine drawStep ?_
        exact finV (v' := .str ((([101, 120, 32] ++ name) ++ [46, 32]) ++ a.tx)) (by kernel_rfl) rfl
      · subst hop
        have htx : FT.tx ⟨8, name, md, tk, [], ak, [a]⟩ = (([97, 108, 108, 32] ++ name) ++ [46, 32]) ++ a.tx := by
          rw [FT.tx, joinF]
          simp only [show ¬ ((8 : Int) = 0) by decide, show ¬ ((8 : Int) = 1) by decide, show ¬ ((8 : Int) = 2) by decide, show ¬ ((8 : Int) = 7) by decide, if_false, if_true]
          rfl
        rw [htx]
        refine Pure.of_sw 97 Tryd.func32 rfl Tryd.ntmps32 (by kernel_rfl) (Nat.le_of_ble_eq_true (by kernel_rfl)) (by simp only [closeds]; exact ⟨fC5_closed 8 name md tk [] ak [a], trivial⟩) (by simp only [AV.closed]) ?_
        refine SW.of_vc ?_
        repeat first | refine opsStep ?_ | refine codeStep ?_ | refine drawStep ?_
        refine SW.drawn rfl (by kernel_rfl) ?_
        repeat first | refine opsStep ?_ | refine codeStep ?_ | refine drawStep ?_
        refine guardE_of (by show 4 + name.length ≤ 9223372036854775807; omega) ?_
        repeat first | refine opsStep ?_ | refine codeStep ?_ | refine drawStep ?_
        refine guardE_of (by show ([97, 108, 108, 32] ++ name).length + 2 ≤ 9223372036854775807; simp only [List.length_append, List.length_cons, List.length_nil]; omega) ?_
        repeat first | refine opsStep ?_ | refine codeStep ?_ | refine drawStep ?_
        refine guardE_of hf0 ?_
        repeat first | refine opsStep ?_ | refine codeStep ?_ | refine drawStep ?_
        refine .inl ⟨_, _, [], ha', RdsN_refl _, .inr rfl, none_need, ?_⟩
        repeat first | refine opsStep ?_ | refine codeStep ?_ | refine drawStep ?_
        refine guardE_of (by show (([97, 108, 108, 32] ++ name) ++ [46, 32]).length + a.tx.length ≤ 9223372036854775807; simp only [List.length_append, List.length_cons, List.length_nil]; omega) ?_
        repeat first | refine opsStep ?_ | refine codeStep ?_ | refine drawStep ?_
        refine ⟨by kernel_rfl, ?_⟩
        repeat first | refine opsStep ?_ | refine codeStep ?_ | refine drawStep ?_
        exact finV (v' := .str ((([97, 108, 108, 32] ++ name) ++ [46, 32]) ++ a.tx)) (by kernel_rfl) rfl
    · rw [ttsNodes, ttsNodes, ttsNodes] at hn
      rw [ttsOk, ttsOk] at hto
      rw [ttsRight, ttsRight] at htr
      have ha' := shTerm _ a (Nat.le_refl _) (by omega) htr.1 hto.1
      have hb' := shTerm _ b (Nat.le_refl _) (by omega) htr.2.1 hto.2.1
      have la := TT.tx_small hto.1 (by omega : a.nodes ≤ 500)
      have lb := TT.tx_small hto.2.1 (by omega : b.nodes ≤ 500)
      have hf0 : 4 ≤ ((ttsC [a, b]).drop ((0 : Int).toNat * 4)).length := by rw [List.length_drop, ttsC_len]; simp
      have hf1 : 4 ≤ ((ttsC [a, b]).drop ((1 : Int).toNat * 4)).length := by rw [List.length_drop, ttsC_len]; simp
      rw [← cell_a a [b]] at ha'
      rw [← cell_b a b []] at hb'
      rcases hop with hop | hop | hop | hop | hop | hop
      · subst hop
        have htx : FT.tx ⟨9, name, md, tk, [a, b], ak, []⟩ = (a.tx ++ signF 9) ++ b.tx := by
          rw [FT.tx, joinF]
          simp only [show ¬ ((9 : Int) = 0) by decide, show ¬ ((9 : Int) = 1) by decide, show ¬ ((9 : Int) = 2) by decide, show ¬ ((9 : Int) = 7) by decide, show ¬ ((9 : Int) = 8) by decide, show ¬ ((3 : Int) ≤ 9 ∧ (9 : Int) ≤ 6) by decide, show ¬ ((9 : Int) = 15) by decide, if_false]
          rfl
        rw [htx]
        have hsg := fsign_len 9
        refine Pure.of_sw 97 Tryd.func32 rfl Tryd.ntmps32 (by kernel_rfl) (Nat.le_of_ble_eq_true (by kernel_rfl)) (by simp only [closeds]; exact ⟨fC5_closed 9 name md tk [a, b] ak [], trivial⟩) (by simp only [AV.closed]) ?_
        refine SW.of_vc ?_
        repeat first | refine opsStep ?_ | refine codeStep ?_ | refine drawStep ?_
        refine SW.drawn rfl (by kernel_rfl) ?_
        repeat first | refine opsStep ?_ | refine codeStep ?_ | refine drawStep ?_
        refine guardE_of hf0 ?_
        repeat first | refine opsStep ?_ | refine codeStep ?_ | refine drawStep ?_
        refine .inl ⟨_, _, [], ha', RdsN_refl _, .inr rfl, none_need, ?_⟩
        repeat first | refine opsStep ?_ | refine codeStep ?_ | refine drawStep ?_
        refine .inl ⟨_, _, [], (show_sign 9), RdsN_refl _, .inr rfl, none_need, ?_⟩
        repeat first | refine opsStep ?_ | refine codeStep ?_ | refine drawStep ?_
        refine guardE_of (by show a.tx.length + (signF 9).length ≤ 9223372036854775807; omega) ?_
        repeat first | refine opsStep ?_ | refine codeStep ?_ | refine drawStep ?_
        refine guardE_of hf1 ?_
        repeat first | refine opsStep ?_ | refine codeStep ?_ | refine drawStep ?_
        refine .inl ⟨_, _, [], hb', RdsN_refl _, .inr rfl, none_need, ?_⟩
        repeat first | refine opsStep ?_ | refine codeStep ?_ | refine drawStep ?_
        refine guardE_of (by show (a.tx ++ signF 9).length + b.tx.length ≤ 9223372036854775807; simp only [List.length_append]; omega) ?_
        repeat first | refine opsStep ?_ | refine codeStep ?_ | refine drawStep ?_
        refine ⟨by kernel_rfl, ?_⟩
        repeat first | refine opsStep ?_ | refine codeStep ?_ | refine drawStep ?_
        exact finV (v' := .str ((a.tx ++ signF 9) ++ b.tx)) (by kernel_rfl) rfl
      · subst hop
        have htx : FT.tx ⟨10, name, md, tk, [a, b], ak, []⟩ = (a.tx ++ signF 10) ++ b.tx := by
          rw [FT.tx, joinF]
          simp only [show ¬ ((10 : Int) = 0) by decide, show ¬ ((10 : Int) = 1) by decide, show ¬ ((10 : Int) = 2) by decide, show ¬ ((10 : Int) = 7) by decide, show ¬ ((10 : Int) = 8) by decide, show ¬ ((3 : Int) ≤ 10 ∧ (10 : Int) ≤ 6) by decide, show ¬ ((10 : Int) = 15) by decide, if_false]
          rfl
        rw [htx]
        have hsg := fsign_len 10
        refine Pure.of_sw 97 Tryd.func32 rfl Tryd.ntmps32 (by kernel_rfl) (Nat.le_of_ble_eq_true (by kernel_rfl)) (by simp only [closeds]; exact ⟨fC5_closed 10 name md tk [a, b] ak [], trivial⟩) (by simp only [AV.closed]) ?_
        refine SW.of_vc ?_
        repeat first | refine opsStep ?_ | refine codeStep ?_ | refine drawStep ?_
        refine SW.drawn rfl (by kernel_rfl) ?_
        repeat first | refine opsStep ?_ | refine codeStep ?_ | refine drawStep ?_
        refine guardE_of hf0 ?_
        repeat first | refine opsStep ?_ | refine codeStep ?_ | refine drawStep ?_
        refine .inl ⟨_, _, [], ha', RdsN_refl _, .inr rfl, none_need, ?_⟩
        repeat first | refine opsStep ?_ | refine codeStep ?_ | refine drawStep ?_
        refine .inl ⟨_, _, [], (show_sign 10), RdsN_refl _, .inr rfl, none_need, ?_⟩
        repeat first | refine opsStep ?_ | refine codeStep ?_ | refine drawStep ?_
        refine guardE_of (by show a.tx.length + (signF 10).length ≤ 9223372036854775807; omega) ?_
        repeat first | refine opsStep ?_ | refine codeStep ?_ | refine drawStep ?_
        refine guardE_of hf1 ?_
        repeat first | refine opsStep ?_ | refine codeStep ?_ | refine drawStep ?_
        refine .inl ⟨_, _, [], hb', RdsN_refl _, .inr rfl, none_need, ?_⟩
        repeat first | refine opsStep ?_ | refine codeStep ?_ | refine drawStep ?_
        refine guardE_of (by show (a.tx ++ signF 10).length + b.tx.length ≤ 9223372036854775807; simp only [List.length_append]; omega) ?_
        repeat first | refine opsStep ?_ | refine codeStep ?_ | refine drawStep ?_
        refine ⟨by kernel_rfl, ?_⟩
        repeat first | refine opsStep ?_ | refine codeStep ?_ | refine drawStep ?_
        exact finV (v' := .str ((a.tx ++ signF 10) ++ b.tx)) (by kernel_rfl) rfl
      · subst hop
        have htx : FT.tx ⟨11, name, md, tk, [a, b], ak, []⟩ = (a.tx ++ signF 11) ++ b.tx := by
          rw [FT.tx, joinF]
          simp only [show ¬ ((11 : Int) = 0) by decide, show ¬ ((11 : Int) = 1) by decide, show ¬ ((11 : Int) = 2) by decide, show ¬ ((11 : Int) = 7) by decide, show ¬ ((11 : Int) = 8) by decide, show ¬ ((3 : Int) ≤ 11 ∧ (11 : Int) ≤ 6) by decide, show ¬ ((11 : Int) = 15) by decide, if_false]
          rfl
        rw [htx]
        have hsg := fsign_len 11
        refine Pure.of_sw 97 Tryd.func32 rfl Tryd.ntmps32 (by kernel_rfl) (Nat.le_of_ble_eq_true (by kernel_rfl)) (by simp only [closeds]; exact ⟨fC5_closed 11 name md tk [a, b] ak [], trivial⟩) (by simp only [AV.closed]) ?_
        refine SW.of_vc ?_
        repeat first | refine opsStep ?_ | refine codeStep ?_ | refine drawStep ?_
        refine SW.drawn rfl (by kernel_rfl) ?_
        repeat first | refine opsStep ?_ | refine codeStep ?_ | refine drawStep ?_
        refine guardE_of hf0 ?_
        repeat first | refine opsStep ?_ | refine codeStep ?_ | refine drawStep ?_
        refine .inl ⟨_, _, [], ha', RdsN_refl _, .inr rfl, none_need, ?_⟩
        repeat first | refine opsStep ?_ | refine codeStep ?_ | refine drawStep ?_
        refine .inl ⟨_, _, [], (show_sign 11), RdsN_refl _, .inr rfl, none_need, ?_⟩
        repeat first | refine opsStep ?_ | refine codeStep ?_ | refine drawStep ?_
        refine guardE_of (by show a.tx.length + (signF 11).length ≤ 9223372036854775807; omega) ?_
        repeat first | refine opsStep ?_ | refine codeStep ?_ | refine drawStep ?_
        refine guardE_of hf1 ?_
        repeat first | refine opsStep ?_ | refine codeStep ?_ | refine drawStep ?_
        refine .inl ⟨_, _, [], hb', RdsN_refl _, .inr rfl, none_need, ?_⟩
        repeat first | refine opsStep ?_ | refine codeStep ?_ | refine drawStep ?_
        refine guardE_of (by show (a.tx ++ signF 11).length + b.tx.length ≤ 9223372036854775807; simp only [List.length_append]; omega) ?_
        repeat first | refine opsStep ?_ | refine codeStep ?_ | refine drawStep ?_
        refine ⟨by kernel_rfl, ?_⟩
        repeat first | refine opsStep ?_ | refine codeStep ?_ | refine drawStep ?_
        exact finV (v' := .str ((a.tx ++ signF 11) ++ b.tx)) (by kernel_rfl) rfl
      · subst hop
        have htx : FT.tx ⟨12, name, md, tk, [a, b], ak, []⟩ = (a.tx ++ signF 12) ++ b.tx := by
          rw [FT.tx, joinF]
          simp only [show ¬ ((12 : Int) = 0) by decide, show ¬ ((12 : Int) = 1) by decide, show ¬ ((12 : Int) = 2) by decide, show ¬ ((12 : Int) = 7) by decide, show ¬ ((12 : Int) = 8) by decide, show ¬ ((3 : Int) ≤ 12 ∧ (12 : Int) ≤ 6) by decide, show ¬ ((12 : Int) = 15) by decide, if_false]
          rfl
        rw [htx]
        have hsg := fsign_len 12
        refine Pure.of_sw 97 Tryd.func32 rfl Tryd.ntmps32 (by kernel_rfl) (Nat.le_of_ble_eq_true (by kernel_rfl)) (by simp only [closeds]; exact ⟨fC5_closed 12 name md tk [a, b] ak [], trivial⟩) (by simp only [AV.closed]) ?_
        refine SW.of_vc ?_
        repeat first | refine opsStep ?_ | refine codeStep ?_ | refine drawStep ?_
        refine SW.drawn rfl (by kernel_rfl) ?_
        repeat first | refine opsStep ?_ | refine codeStep ?_ | refine drawStep ?_
        refine guardE_of hf0 ?_
        repeat first | refine opsStep ?_ | refine codeStep ?_ | refine drawStep ?_
        refine .inl ⟨_, _, [], ha', RdsN_refl _, .inr rfl, none_need, ?_⟩
        repeat first | refine opsStep ?_ | refine codeStep ?_ | refine drawStep ?_
        refine .inl ⟨_, _, [], (show_sign 12), RdsN_refl _, .inr rfl, none_need, ?_⟩
        repeat first | refine opsStep ?_ | refine codeStep ?_ | refine drawStep ?_
        refine guardE_of (by show a.tx.length + (signF 12).length ≤ 9223372036854775807; omega) ?_
        repeat first | refine opsStep ?_ | refine codeStep ?_ | refine drawStep ?_
        refine guardE_of hf1 ?_
        repeat first | refine opsStep ?_ | refine codeStep ?_ | refine drawStep ?_
        refine .inl ⟨_, _, [], hb', RdsN_refl _, .inr rfl, none_need, ?_⟩
        repeat first | refine opsStep ?_ | refine codeStep ?_ | refine drawStep ?_
        refine guardE_of (by show (a.tx ++ signF 12).length + b.tx.length ≤ 9223372036854775807; simp only [List.length_append]; omega) ?_
        repeat first | refine opsStep ?_ | refine codeStep ?_ | refine drawStep ?_
        refine ⟨by kernel_rfl, ?_⟩
        repeat first | refine opsStep ?_ | refine codeStep ?_ | refine drawStep ?_
        exact finV (v' := .str ((a.tx ++ signF 12) ++ b.tx)) (by kernel_rfl) rfl
      · subst hop
        have htx : FT.tx ⟨13, name, md, tk, [a, b], ak, []⟩ = (a.tx ++ signF 13) ++ b.tx := by
          rw [FT.tx, joinF]
          simp only [show ¬ ((13 : Int) = 0) by decide, show ¬ ((13 : Int) = 1) by decide, show ¬ ((13 : Int) = 2) by decide, show ¬ ((13 : Int) = 7) by decide, show ¬ ((13 : Int) = 8) by decide, show ¬ ((3 : Int) ≤ 13 ∧ (13 : Int) ≤ 6) by decide, show ¬ ((13 : Int) = 15) by decide, if_false]
          rfl
        rw [htx]
        have hsg := fsign_len 13
        refine Pure.of_sw 97 Tryd.func32 rfl Tryd.ntmps32 (by kernel_rfl) (Nat.le_of_ble_eq_true (by kernel_rfl)) (by simp only [closeds]; exact ⟨fC5_closed 13 name md tk [a, b] ak [], trivial⟩) (by simp only [AV.closed]) ?_
        refine SW.of_vc ?_
        repeat first | refine opsStep ?_ | refine codeStep ?_ | refine drawStep ?_
        refine SW.drawn rfl (by kernel_rfl) ?_
        repeat first | refine opsStep ?_ | refine codeStep ?_ | refine drawStep ?_
        refine guardE_of hf0 ?_
        repeat first | refine opsStep ?_ | refine codeStep ?_ | refine drawStep ?_
        refine .inl ⟨_, _, [], ha', RdsN_refl _, .inr rfl, none_need, ?_⟩
        repeat first | refine opsStep ?_ | refine codeStep ?_ | refine drawStep ?_
        refine .inl ⟨_, _, [], (show_sign 13), RdsN_refl _, .inr rfl, none_need, ?_⟩
        repeat first | refine opsStep ?_ | refine codeStep ?_ | refine drawStep ?_
        refine guardE_of (by show a.tx.length + (signF 13).length ≤ 9223372036854775807; omega) ?_
        repeat first | refine opsStep ?_ | refine codeStep ?_ | refine drawStep ?_
        refine guardE_of hf1 ?_
        repeat first | refine opsStep ?_ | refine codeStep ?_ | refine drawStep ?_
        refine .inl ⟨_, _, [], hb', RdsN_refl _, .inr rfl, none_need, ?_⟩
        repeat first | refine opsStep ?_ | refine codeStep ?_ | refine drawStep ?_
        refine guardE_of (by show (a.tx ++ signF 13).length + b.tx.length ≤ 9223372036854775807; simp only [List.length_append]; omega) ?_
        repeat first | refine opsStep ?_ | refine codeStep ?_ | refine drawStep ?_
        refine ⟨by kernel_rfl, ?_⟩
        repeat first | refine opsStep ?_ | refine codeStep ?_ | refine drawStep ?_
        exact finV (v' := .str ((a.tx ++ signF 13) ++ b.tx)) (by kernel_rfl) rfl
      · subst hop
        have htx : FT.tx ⟨14, name, md, tk, [a, b], ak, []⟩ = (a.tx ++ signF 14) ++ b.tx := by
          rw [FT.tx, joinF]
          simp only [show ¬ ((14 : Int) = 0) by decide, show ¬ ((14 : Int) = 1) by decide, show ¬ ((14 : Int) = 2) by decide, show ¬ ((14 : Int) = 7) by decide, show ¬ ((14 : Int) = 8) by decide, show ¬ ((3 : Int) ≤ 14 ∧ (14 : Int) ≤ 6) by decide, show ¬ ((14 : Int) = 15) by decide, if_false]
          rfl
        rw [htx]
        have hsg := fsign_len 14
        refine Pure.of_sw 97 Tryd.func32 rfl Tryd.ntmps32 (by kernel_rfl) (Nat.le_of_ble_eq_true (by kernel_rfl)) (by simp only [closeds]; exact ⟨fC5_closed 14 name md tk [a, b] ak [], trivial⟩) (by simp only [AV.closed]) ?_
        refine SW.of_vc ?_
        repeat first | refine opsStep ?_ | refine codeStep ?_ | refine drawStep ?_
        refine SW.drawn rfl (by kernel_rfl) ?_
        repeat first | refine opsStep ?_ | refine codeStep ?_ | refine drawStep ?_
        refine guardE_of hf0 ?_
        repeat first | refine opsStep ?_ | refine codeStep ?_ | refine drawStep ?_
        refine .inl ⟨_, _, [], ha', RdsN_refl _, .inr rfl, none_need, ?_⟩
        repeat first | refine opsStep ?_ | refine codeStep ?_ | refine drawStep ?_
        refine .inl ⟨_, _, [], (show_sign 14), RdsN_refl _, .inr rfl, none_need, ?_⟩
        repeat first | refine opsStep ?_ | refine codeStep ?_ | refine drawStep ?_
        refine guardE_of (by show a.tx.length + (signF 14).length ≤ 9223372036854775807; omega) ?_
        repeat first | refine opsStep ?_ | refine codeStep ?_ | refine drawStep ?_
        refine guardE_of hf1 ?_
        repeat first | refine opsStep ?_ | refine codeStep ?_ | refine drawStep ?_
        refine .inl ⟨_, _, [], hb', RdsN_refl _, .inr rfl, none_need, ?_⟩
        repeat first | refine opsStep ?_ | refine codeStep ?_ | refine drawStep ?_
        refine guardE_of (by show (a.tx ++ signF 14).length + b.tx.length ≤ 9223372036854775807; simp only [List.length_append]; omega) ?_
        repeat first | refine opsStep ?_ | refine codeStep ?_ | refine drawStep ?_
        refine ⟨by kernel_rfl, ?_⟩
        repeat first | refine opsStep ?_ | refine codeStep ?_ | refine drawStep ?_
        exact finV (v' := .str ((a.tx ++ signF 14) ++ b.tx)) (by kernel_rfl) rfl
    · rw [ttsNodes, ttsNodes, ttsNodes] at hn
      rw [ttsOk, ttsOk] at hto
      rw [ttsRight, ttsRight] at htr
      have ha' := shTerm _ a (Nat.le_refl _) (by omega) htr.1 hto.1
      have hb' := shTerm _ b (Nat.le_refl _) (by omega) htr.2.1 hto.2.1
      have la := TT.tx_small hto.1 (by omega : a.nodes ≤ 500)
      have lb := TT.tx_small hto.2.1 (by omega : b.nodes ≤ 500)
      have hf0 : 4 ≤ ((ttsC [a, b]).drop ((0 : Int).toNat * 4)).length := by rw [List.length_drop, ttsC_len]; simp
      have hf1 : 4 ≤ ((ttsC [a, b]).drop ((1 : Int).toNat * 4)).length := by rw [List.length_drop, ttsC_len]; simp
      rw [← cell_a a [b]] at ha'
      rw [← cell_b a b []] at hb'
      have hfm := fmt_Int md.toNat (by have := hmd.2; omega)
      have hfl := dg_lenU 18 md.toNat (by have := hmd.2; omega)
      rw [Int.toNat_of_nonneg (by omega)] at hfm
      have htx : FT.tx ⟨15, name, md, tk, [a, b], ak, []⟩ = (((a.tx ++ [32, 126, 32]) ++ b.tx) ++ [32, 109, 111, 100, 32]) ++ dgL md.toNat := by
        rw [FT.tx, joinF]
        simp only [show ¬ ((15 : Int) = 0) by decide, show ¬ ((15 : Int) = 1) by decide, show ¬ ((15 : Int) = 2) by decide, show ¬ ((15 : Int) = 7) by decide, show ¬ ((15 : Int) = 8) by decide, show ¬ ((3 : Int) ≤ 15 ∧ (15 : Int) ≤ 6) by decide, if_false, if_true]
        rfl
      rw [htx]
      refine Pure.of_sw 97 Tryd.func32 rfl Tryd.ntmps32 (by kernel_rfl) (Nat.le_of_ble_eq_true (by kernel_rfl)) (by simp only [closeds]; exact ⟨fC5_closed 15 name md tk [a, b] ak [], trivial⟩) (by simp only [AV.closed]) ?_
      refine SW.of_vc ?_
      repeat first | refine opsStep ?_ | refine codeStep ?_ | refine drawStep ?_
      refine SW.drawn rfl (by kernel_rfl) ?_
      repeat first | refine opsStep ?_ | refine codeStep ?_ | refine drawStep ?_
      refine guardE_of hf0 ?_
      repeat first | refine opsStep ?_ | refine codeStep ?_ | refine drawStep ?_
      refine .inl ⟨_, _, [], ha', RdsN_refl _, .inr rfl, none_need, ?_⟩
      repeat first | refine opsStep ?_ | refine codeStep ?_ | refine drawStep ?_
      refine guardE_of (by show a.tx.length + 3 ≤ 9223372036854775807; omega) ?_
      repeat first | refine opsStep ?_ | refine codeStep ?_ | refine drawStep ?_
      refine guardE_of hf1 ?_
      repeat first | refine opsStep ?_ | refine codeStep ?_ | refine drawStep ?_
      refine .inl ⟨_, _, [], hb', RdsN_refl _, .inr rfl, none_need, ?_⟩
      repeat first | refine opsStep ?_ | refine codeStep ?_ | refine drawStep ?_
      refine guardE_of (by show (a.tx ++ [32, 126, 32]).length + b.tx.length ≤ 9223372036854775807; simp only [List.length_append, List.length_cons, List.length_nil]; omega) ?_
      repeat first | refine opsStep ?_ | refine codeStep ?_ | refine drawStep ?_
      refine guardE_of (by show ((a.tx ++ [32, 126, 32]) ++ b.tx).length + 5 ≤ 9223372036854775807; simp only [List.length_append, List.length_cons, List.length_nil]; omega) ?_
      repeat first | refine opsStep ?_ | refine codeStep ?_ | refine drawStep ?_
      refine .inl ⟨_, _, [], hfm, RdsN_refl _, .inr rfl, none_need, ?_⟩
      repeat first | refine opsStep ?_ | refine codeStep ?_ | refine drawStep ?_
      refine guardE_of (by show (((a.tx ++ [32, 126, 32]) ++ b.tx) ++ [32, 109, 111, 100, 32]).length + (dgL md.toNat).length ≤ 9223372036854775807; simp only [List.length_append, List.length_cons, List.length_nil]; omega) ?_
      repeat first | refine opsStep ?_ | refine codeStep ?_ | refine drawStep ?_
      refine ⟨by kernel_rfl, ?_⟩
      repeat first | refine opsStep ?_ | refine codeStep ?_ | refine drawStep ?_
      exact finV (v' := .str ((((a.tx ++ [32, 126, 32]) ++ b.tx) ++ [32, 109, 111, 100, 32]) ++ dgL md.toNat)) (by kernel_rfl) rfl

theorem show_Formula (t : FT) (hok : t.ok) : Pure Tryd.prog 13 [.agg t.cells] (.tup [.str (if chkF t = 0 then t.tx else []), .int .i64 (chkF t)]) := by
  have hck := tree_Check t hok
  have hst : chkF t = 0 → Pure Tryd.prog 32 [.agg t.cells] (.str t.tx) := fun h => by
    obtain ⟨h1, h2⟩ := chkF_right h
    exact shFormula _ t (Nat.le_refl _) h2 h1 hok
  have hcl : (t.cells.drop 0).take 5 = t.cells := by rw [List.drop_zero, List.take_of_length_le (by rw [FT.cells_len]; omega)]
  have hlen := FT.cells_len t
  have hcc := FT.cells_closed t
  generalize chkF t = c at *
  generalize t.tx = x at *
  generalize t.cells = y at *
  rw [← hcl] at hck hst
  refine Pure.of_sw 12 Tryd.func13 rfl Tryd.ntmps13 (by kernel_rfl) (Nat.le_of_ble_eq_true (by kernel_rfl)) (by simp only [closeds, AV.closed]; exact ⟨hcc, trivial⟩) (by simp only [AV.closed, closeds]; exact ⟨trivial, trivial, trivial⟩) ?_
  refine SW.of_vc ?_
  repeat first | refine opsStep ?_ | refine codeStep ?_ | refine drawStep ?_
  refine guardE_of (by show 0 + 5 ≤ y.length; omega) ?_
  repeat first | refine opsStep ?_ | refine codeStep ?_ | refine drawStep ?_
  refine callP (args := [.agg ((y.drop 0).take 5)]) hck ?_
  repeat first | refine opsStep ?_ | refine codeStep ?_ | refine drawStep ?_
  refine decB_dec (fun h => ?_) (fun h => ?_)
  · have h : c ≠ 0 := h
    repeat first | refine opsStep ?_ | refine codeStep ?_ | refine drawStep ?_
    exact finV (v' := .tup [.str [], .int .i64 c]) (by kernel_rfl) (by rw [if_neg h])
  · have h : c = 0 := Decidable.of_not_not h
    repeat first | refine opsStep ?_ | refine codeStep ?_ | refine drawStep ?_
    refine guardE_of (by show 0 + 5 ≤ y.length; omega) ?_
    repeat first | refine opsStep ?_ | refine codeStep ?_ | refine drawStep ?_
    refine callP (args := [.agg ((y.drop 0).take 5)]) (hst h) ?_
    repeat first | refine opsStep ?_ | refine codeStep ?_ | refine drawStep ?_
    exact finV (v' := .tup [.str x, .int .i64 0]) (by kernel_rfl) (by rw [if_pos h, h])

end Tab

/- The reference's texts of numbers and parts. -/
namespace Tab
open Go Go.Proofs
set_option maxRecDepth 10000
set_option linter.unusedVariables false
set_option linter.unusedSimpArgs false
set_option linter.unusedSectionVars false
set_option maxHeartbeats 1000000

def heldB (op over place : Int) : Prop := ((op = 3 ∨ op = 4) ∧ ((over = 2 ∨ over = 5) ∨ place = 1)) ∨ (op = 5 ∧ (over = 2 ∨ (over = 5 ∧ place = 1)))
instance (op over place : Int) : Decidable (heldB op over place) := by unfold heldB; infer_instance

end Tab

/- The reference's texts of terms. -/
namespace Tab
open Go Go.Proofs
set_option maxRecDepth 10000
set_option linter.unusedVariables false
set_option linter.unusedSimpArgs false
set_option linter.unusedSectionVars false
set_option maxHeartbeats 1000000

end Tab

/- The reference's texts of formulas. -/
namespace Tab
open Go Go.Proofs
set_option maxRecDepth 10000
set_option linter.unusedVariables false
set_option linter.unusedSimpArgs false
set_option linter.unusedSectionVars false
set_option maxHeartbeats 2000000

end Tab

/- The fixed texts. -/
namespace Tab
open Go Go.Proofs
set_option maxRecDepth 10000
set_option linter.unusedVariables false
set_option linter.unusedSimpArgs false
set_option linter.unusedSectionVars false
set_option maxHeartbeats 1000000

def fxX : TT := .mk 1 0 [120] .nil []
def fxT : TT := .mk 0 10 [] .nil []
def fxL : FT := .mk 9 [] 0 .any [fxX, fxT] .nil []
def fxE : FT := .mk 7 [120] 0 .nil [] .any [fxL]
def fxN : FT := .mk 2 [] 0 .nil [] .nil []
theorem fxX_ok : fxX.ok := by rw [fxX, TT.ok]; exact ⟨by unfold okI6; omega, by unfold okI6; omega, by simp, by simp, by rw [ttsOk]; trivial⟩
theorem fxT_ok : fxT.ok := by rw [fxT, TT.ok]; exact ⟨by unfold okI6; omega, by unfold okI6; omega, by simp, by simp, by rw [ttsOk]; trivial⟩
theorem fxL_ok : fxL.ok := by
  rw [fxL, FT.ok]
  refine ⟨by unfold okI6; omega, by simp, by unfold okI6; omega, by simp, ?_, by simp, by rw [ftsOk]; trivial⟩
  rw [ttsOk, ttsOk, ttsOk]
  exact ⟨fxX_ok, fxT_ok, trivial⟩
theorem fxE_ok : fxE.ok := by
  rw [fxE, FT.ok]
  refine ⟨by unfold okI6; omega, by simp, by unfold okI6; omega, by simp, by rw [ttsOk]; trivial, by simp, ?_⟩
  rw [ftsOk, ftsOk]
  exact ⟨fxL_ok, trivial⟩
theorem fxN_ok : fxN.ok := by
  rw [fxN, FT.ok]
  exact ⟨by unfold okI6; omega, by simp, by unfold okI6; omega, by simp, by rw [ttsOk]; trivial, by simp, by rw [ftsOk]; trivial⟩
theorem fxE_chk : chkF fxE = 0 := by kernel_rfl
theorem fxN_chk : chkF fxN = 3 := by kernel_rfl
theorem fxE_tx : fxE.tx = [101, 120, 32, 120, 46, 32, 120, 32, 60, 61, 32, 49, 48] := by kernel_rfl

theorem law_fixed : Pure Tryd.prog 15 [] (.bool true) := by
  have h1 := show_Formula fxE fxE_ok
  have h2 := show_Formula fxN fxN_ok
  rw [fxE_chk, if_pos rfl, fxE_tx] at h1
  rw [fxN_chk, if_neg (by decide)] at h2
  refine Pure.of_sw 34 Tryd.func15 rfl Tryd.ntmps15 (by kernel_rfl) (Nat.le_of_ble_eq_true (by kernel_rfl)) (by simp [closeds, AV.closed, aSs_closed, aIs_closed, aBs_closed, aRs_closed, aDen_closed]) (by simp [AV.closed, closeds, aSs_closed, aIs_closed, aBs_closed, aRs_closed, aDen_closed]) ?_; refine SW.of_vc ?_
  repeat first | refine opsStep ?_ | refine codeStep ?_ | refine drawStep ?_
  refine optX_of (c := fxX.cells ++ fxT.cells) (by kernel_rfl) ?_
  repeat first | refine opsStep ?_ | refine codeStep ?_ | refine drawStep ?_
  refine callB (args := [.agg fxE.cells]) h1 rfl ?_ ?_
  · refine .cons (.agg ?_) .nil
    refine .cons (.refl _) (.cons (.refl _) (.cons (.refl _) (.cons (.refl _) (.cons ?_ .nil))))
    refine .hs (blk := .cells 0 [.int .i64 9, .str [], .int .i64 0, .hs 0 0 0 2 4, .sl .nil 0 []]) (g := 0) (cs := [.int .i64 9, .str [], .int .i64 0, .hs 0 0 0 2 4, .sl .nil 0 []]) (by kernel_rfl) (by kernel_rfl) (Nat.le_refl 5) ?_
    refine .cons (.refl _) (.cons (.refl _) (.cons (.refl _) (.cons ?_ (.cons (.refl _) .nil))))
    exact Rd.whole (g := 0) (cs := fxX.cells ++ fxT.cells) (by kernel_rfl) (by kernel_rfl)
  repeat first | refine opsStep ?_ | refine codeStep ?_ | refine drawStep ?_
  refine callP h2 ?_
  repeat first | refine opsStep ?_ | refine codeStep ?_ | refine drawStep ?_
  exact finV (v' := .bool true) (by kernel_rfl) (by kernel_rfl)

end Tab

/- Nodes that are well made: of formulas, and by the document. -/
namespace Tab
open Go Go.Proofs
set_option maxRecDepth 10000
set_option linter.unusedVariables false
set_option linter.unusedSimpArgs false
set_option linter.unusedSectionVars false
set_option maxHeartbeats 2000000

theorem r06_wellTerm (t : TT) (hn : t.name.length < 2^62) : Pure Tryd.prog 58 [.agg t.cells] (.bool (goodT t)) := by
  rw [TT.cells_eq]
  rcases t with ⟨op, num, name, k, args⟩
  simp only [TT.op, TT.num, TT.name, TT.k, TT.args] at hn ⊢
  have hL0 : ((args.length : Int) = 0) ↔ args.length = 0 := by omega
  have hL1 : ((args.length : Int) = 1) ↔ args.length = 1 := by omega
  have hL2 : ((args.length : Int) = 2) ↔ args.length = 2 := by omega
  by_cases hr : 0 ≤ op ∧ op ≤ 5
  · rcases (by omega : op = 0 ∨ op = 1 ∨ op = 2 ∨ op = 3 ∨ op = 4 ∨ op = 5) with hop | hop | hop | hop | hop | hop
    · subst hop
      refine Pure.of_sw 54 Tryd.func58 rfl Tryd.ntmps58 (by kernel_rfl) (Nat.le_of_ble_eq_true (by kernel_rfl)) (by simp only [closeds]; exact ⟨tC_closed 0 num name k args, trivial⟩) (by simp only [AV.closed]) ?_
      refine SW.of_vc ?_
      repeat' first | refine opsStep ?_ | refine codeStep ?_ | refine decB_split (fun h => ?_) (fun h => ?_)
      any_goals exact finB rfl (by simp_all [goodT, TT.op, TT.num, TT.name, TT.args] <;> omega)
      refine optX_of (c := [.int .i64 0, .int .i64 0, .int .i64 1, .int .i64 2, .int .i64 2, .int .i64 2]) (by kernel_rfl) ?_
      repeat first | refine opsStep ?_ | refine codeStep ?_ | refine drawStep ?_
      refine SW.drawn rfl (by kernel_rfl) ?_
      repeat' first | refine drawStep ?_ | refine decB_split (fun h => ?_) (fun h => ?_)
      all_goals
        refine ⟨by kernel_rfl, ?_⟩
        repeat first | refine opsStep ?_ | refine codeStep ?_ | refine drawStep ?_
        exact finB rfl (by clear hr; simp only [goodT, TT.op, TT.num, TT.name, TT.args]; by_cases q1 : 0 ≤ num <;> by_cases q2 : num = 0 <;> by_cases q3 : args.length = 0 <;> by_cases q4 : args.length = 1 <;> by_cases q5 : args.length = 2 <;> simp_all <;> first | omega | exact decide_eq_false (by omega))
    · subst hop
      refine Pure.of_sw 54 Tryd.func58 rfl Tryd.ntmps58 (by kernel_rfl) (Nat.le_of_ble_eq_true (by kernel_rfl)) (by simp only [closeds]; exact ⟨tC_closed 1 num name k args, trivial⟩) (by simp only [AV.closed]) ?_
      refine SW.of_vc ?_
      repeat' first | refine opsStep ?_ | refine codeStep ?_ | refine decB_split (fun h => ?_) (fun h => ?_)
      · exact finB rfl (by simp_all [goodT, TT.op, TT.num, TT.name, TT.args])
      refine optX_of (c := [.int .i64 0, .int .i64 0, .int .i64 1, .int .i64 2, .int .i64 2, .int .i64 2]) (by kernel_rfl) ?_
      repeat first | refine opsStep ?_ | refine codeStep ?_ | refine drawStep ?_
      refine SW.drawn rfl (by kernel_rfl) ?_
      repeat' first | refine drawStep ?_ | refine decB_split (fun h => ?_) (fun h => ?_)
      · refine .inl ⟨_, _, [], (r04_Name name hn), RdsN_refl _, .inr rfl, none_need, ?_⟩
        repeat' first | refine drawStep ?_ | refine decB_split (fun h => ?_) (fun h => ?_)
        refine ⟨by kernel_rfl, ?_⟩
        repeat first | refine opsStep ?_ | refine codeStep ?_ | refine drawStep ?_
        exact finB rfl (by clear hr; simp only [goodT, TT.op, TT.num, TT.name, TT.args]; by_cases q1 : 0 ≤ num <;> by_cases q2 : num = 0 <;> by_cases q3 : args.length = 0 <;> simp_all <;> first | omega | exact decide_eq_false (by omega))
      all_goals
        refine ⟨by kernel_rfl, ?_⟩
        repeat first | refine opsStep ?_ | refine codeStep ?_ | refine drawStep ?_
        exact finB rfl (by clear hr; simp only [goodT, TT.op, TT.num, TT.name, TT.args]; by_cases q1 : 0 ≤ num <;> by_cases q2 : num = 0 <;> by_cases q3 : args.length = 0 <;> simp_all <;> first | omega | exact decide_eq_false (by omega))
    · subst hop
      refine Pure.of_sw 54 Tryd.func58 rfl Tryd.ntmps58 (by kernel_rfl) (Nat.le_of_ble_eq_true (by kernel_rfl)) (by simp only [closeds]; exact ⟨tC_closed 2 num name k args, trivial⟩) (by simp only [AV.closed]) ?_
      refine SW.of_vc ?_
      repeat' first | refine opsStep ?_ | refine codeStep ?_ | refine decB_split (fun h => ?_) (fun h => ?_)
      any_goals exact finB rfl (by simp_all [goodT, TT.op, TT.num, TT.name, TT.args] <;> omega)
      refine optX_of (c := [.int .i64 0, .int .i64 0, .int .i64 1, .int .i64 2, .int .i64 2, .int .i64 2]) (by kernel_rfl) ?_
      repeat first | refine opsStep ?_ | refine codeStep ?_ | refine drawStep ?_
      refine SW.drawn rfl (by kernel_rfl) ?_
      repeat' first | refine drawStep ?_ | refine decB_split (fun h => ?_) (fun h => ?_)
      all_goals
        refine ⟨by kernel_rfl, ?_⟩
        repeat first | refine opsStep ?_ | refine codeStep ?_ | refine drawStep ?_
        exact finB rfl (by clear hr; simp only [goodT, TT.op, TT.num, TT.name, TT.args]; by_cases q1 : 0 ≤ num <;> by_cases q2 : num = 0 <;> by_cases q3 : args.length = 0 <;> by_cases q4 : args.length = 1 <;> by_cases q5 : args.length = 2 <;> simp_all <;> first | omega | exact decide_eq_false (by omega))
    · subst hop
      refine Pure.of_sw 54 Tryd.func58 rfl Tryd.ntmps58 (by kernel_rfl) (Nat.le_of_ble_eq_true (by kernel_rfl)) (by simp only [closeds]; exact ⟨tC_closed 3 num name k args, trivial⟩) (by simp only [AV.closed]) ?_
      refine SW.of_vc ?_
      repeat' first | refine opsStep ?_ | refine codeStep ?_ | refine decB_split (fun h => ?_) (fun h => ?_)
      any_goals exact finB rfl (by simp_all [goodT, TT.op, TT.num, TT.name, TT.args] <;> omega)
      refine optX_of (c := [.int .i64 0, .int .i64 0, .int .i64 1, .int .i64 2, .int .i64 2, .int .i64 2]) (by kernel_rfl) ?_
      repeat first | refine opsStep ?_ | refine codeStep ?_ | refine drawStep ?_
      refine SW.drawn rfl (by kernel_rfl) ?_
      repeat' first | refine drawStep ?_ | refine decB_split (fun h => ?_) (fun h => ?_)
      all_goals
        refine ⟨by kernel_rfl, ?_⟩
        repeat first | refine opsStep ?_ | refine codeStep ?_ | refine drawStep ?_
        exact finB rfl (by clear hr; simp only [goodT, TT.op, TT.num, TT.name, TT.args]; by_cases q1 : 0 ≤ num <;> by_cases q2 : num = 0 <;> by_cases q3 : args.length = 0 <;> by_cases q4 : args.length = 1 <;> by_cases q5 : args.length = 2 <;> simp_all <;> first | omega | exact decide_eq_false (by omega))
    · subst hop
      refine Pure.of_sw 54 Tryd.func58 rfl Tryd.ntmps58 (by kernel_rfl) (Nat.le_of_ble_eq_true (by kernel_rfl)) (by simp only [closeds]; exact ⟨tC_closed 4 num name k args, trivial⟩) (by simp only [AV.closed]) ?_
      refine SW.of_vc ?_
      repeat' first | refine opsStep ?_ | refine codeStep ?_ | refine decB_split (fun h => ?_) (fun h => ?_)
      any_goals exact finB rfl (by simp_all [goodT, TT.op, TT.num, TT.name, TT.args] <;> omega)
      refine optX_of (c := [.int .i64 0, .int .i64 0, .int .i64 1, .int .i64 2, .int .i64 2, .int .i64 2]) (by kernel_rfl) ?_
      repeat first | refine opsStep ?_ | refine codeStep ?_ | refine drawStep ?_
      refine SW.drawn rfl (by kernel_rfl) ?_
      repeat' first | refine drawStep ?_ | refine decB_split (fun h => ?_) (fun h => ?_)
      all_goals
        refine ⟨by kernel_rfl, ?_⟩
        repeat first | refine opsStep ?_ | refine codeStep ?_ | refine drawStep ?_
        exact finB rfl (by clear hr; simp only [goodT, TT.op, TT.num, TT.name, TT.args]; by_cases q1 : 0 ≤ num <;> by_cases q2 : num = 0 <;> by_cases q3 : args.length = 0 <;> by_cases q4 : args.length = 1 <;> by_cases q5 : args.length = 2 <;> simp_all <;> first | omega | exact decide_eq_false (by omega))
    · subst hop
      refine Pure.of_sw 54 Tryd.func58 rfl Tryd.ntmps58 (by kernel_rfl) (Nat.le_of_ble_eq_true (by kernel_rfl)) (by simp only [closeds]; exact ⟨tC_closed 5 num name k args, trivial⟩) (by simp only [AV.closed]) ?_
      refine SW.of_vc ?_
      repeat' first | refine opsStep ?_ | refine codeStep ?_ | refine decB_split (fun h => ?_) (fun h => ?_)
      any_goals exact finB rfl (by simp_all [goodT, TT.op, TT.num, TT.name, TT.args] <;> omega)
      refine optX_of (c := [.int .i64 0, .int .i64 0, .int .i64 1, .int .i64 2, .int .i64 2, .int .i64 2]) (by kernel_rfl) ?_
      repeat first | refine opsStep ?_ | refine codeStep ?_ | refine drawStep ?_
      refine SW.drawn rfl (by kernel_rfl) ?_
      repeat' first | refine drawStep ?_ | refine decB_split (fun h => ?_) (fun h => ?_)
      all_goals
        refine ⟨by kernel_rfl, ?_⟩
        repeat first | refine opsStep ?_ | refine codeStep ?_ | refine drawStep ?_
        exact finB rfl (by clear hr; simp only [goodT, TT.op, TT.num, TT.name, TT.args]; by_cases q1 : 0 ≤ num <;> by_cases q2 : num = 0 <;> by_cases q3 : args.length = 0 <;> by_cases q4 : args.length = 1 <;> by_cases q5 : args.length = 2 <;> simp_all <;> first | omega | exact decide_eq_false (by omega))
  · have hg : goodT ⟨op, num, name, k, args⟩ = false := by
      show (if op = 0 then decide (0 ≤ num) && decide (name = []) && decide (args.length = 0)
        else if op = 1 then decide (num = 0) && nameS name && decide (args.length = 0)
        else if op = 2 then decide (num = 0) && decide (name = []) && decide (args.length = 1)
        else if op = 3 ∨ op = 4 ∨ op = 5 then decide (num = 0) && decide (name = []) && decide (args.length = 2)
        else false) = false
      rw [if_neg (by omega), if_neg (by omega), if_neg (by omega), if_neg (by omega)]
    rw [hg]
    refine Pure.of_sw 54 Tryd.func58 rfl Tryd.ntmps58 (by kernel_rfl) (Nat.le_of_ble_eq_true (by kernel_rfl)) (by simp only [closeds]; exact ⟨tC_closed op num name k args, trivial⟩) (by simp only [AV.closed]) ?_
    refine SW.of_vc ?_
    repeat first | refine opsStep ?_ | refine codeStep ?_ | refine drawStep ?_
    refine decB_dec (fun h => ?_) (fun h => ?_)
    · repeat' first | refine opsStep ?_ | refine codeStep ?_ | refine decB_split (fun h => ?_) (fun h => ?_)
      all_goals exact finB (b' := false) rfl rfl
    · have h : ¬ op < 0 := h
      repeat first | refine opsStep ?_ | refine codeStep ?_ | refine drawStep ?_
      refine decB_dec (fun h2 => ?_) (fun h2 => ?_)
      · repeat' first | refine opsStep ?_ | refine codeStep ?_ | refine decB_split (fun h => ?_) (fun h => ?_)
        all_goals exact finB (b' := false) rfl rfl
      · have h2 : ¬ op > 5 := h2
        omega

end Tab

/- Nodes of formulas that are well made, by the document. -/
namespace Tab
open Go Go.Proofs
set_option maxRecDepth 10000
set_option linter.unusedVariables false
set_option linter.unusedSimpArgs false
set_option linter.unusedSectionVars false
set_option maxHeartbeats 4000000

end Tab

/- Trees are measured, by the document. -/
namespace Tab
open Go Go.Proofs
set_option maxRecDepth 10000
set_option linter.unusedVariables false
set_option linter.unusedSimpArgs false
set_option linter.unusedSectionVars false
set_option maxHeartbeats 1000000

theorem r06_node (m : Ms) (d : Nat) (g : Bool) (hm : MsOk m d) : ACall Tryd.prog 57 [.ref 0 0 0, .int .i64 d, .bool g] [.cells 0 (msC m)] fun o H' => o = .ret (.tup []) ∧ H' = [.cells 0 (msC (nodeM m d g))] := by
  have h1 := hm.size
  have h2 := hm.dep
  have h3 := hm.d
  have e1 : IntKind.wrap .i64 ((m.size : Int) + 1) = ((m.size + 1 : Nat) : Int) := by rw [IntWalk.i64_in _ (by omega)]; simp
  have e2 : (if (d : Int) > (m.depth : Int) then (d : Int) else (m.depth : Int)) = ((max m.depth d : Nat) : Int) := by split <;> omega
  refine ACall.of_sw 43 Tryd.func57 rfl Tryd.ntmps57 (by kernel_rfl) (Nat.le_of_ble_eq_true (by kernel_rfl)) ?_; refine SW.of_vc ?_
  repeat first | refine opsStep ?_ | refine codeStep ?_ | refine drawStep ?_
  refine decB_dec (fun c1 => ?_) (fun c1 => ?_)
  · have c1 : IntKind.wrap .i64 ((m.size : Int) + 1) > 500 := c1
    rw [e1] at c1
    have hn : nodeM m d g = ⟨m.size + 1, max m.depth d, 73⟩ := by rw [nodeM, if_pos (by omega)]
    rw [hn]
    repeat first | refine opsStep ?_ | refine codeStep ?_ | refine drawStep ?_
    exact finR (l := []) (v := .tup []) (H₁ := [.cells 0 [.int .i64 (m.size + 1 : Nat), .int .i64 (max m.depth d : Nat), .int .i64 73]]) trivial (Eq.trans (b := [.cells 0 [.int .i64 (IntKind.wrap .i64 ((m.size : Int) + 1)), .int .i64 (if (d : Int) > (m.depth : Int) then (d : Int) else (m.depth : Int)), .int .i64 73]]) (by kernel_rfl) (by rw [e1, e2])) (Ent.refl _ _ _) (by kernel_rfl) ⟨rfl, rfl⟩
  · have c1 : ¬ IntKind.wrap .i64 ((m.size : Int) + 1) > 500 := c1
    rw [e1] at c1
    repeat first | refine opsStep ?_ | refine codeStep ?_ | refine drawStep ?_
    refine decB_dec (fun c2 => ?_) (fun c2 => ?_)
    · have c2 : (d : Int) > 40 := c2
      have hn : nodeM m d g = ⟨m.size + 1, max m.depth d, 72⟩ := by rw [nodeM, if_neg (by omega), if_pos (by omega)]
      rw [hn]
      repeat first | refine opsStep ?_ | refine codeStep ?_ | refine drawStep ?_
      exact finR (l := []) (v := .tup []) (H₁ := [.cells 0 [.int .i64 (m.size + 1 : Nat), .int .i64 (max m.depth d : Nat), .int .i64 72]]) trivial (Eq.trans (b := [.cells 0 [.int .i64 (IntKind.wrap .i64 ((m.size : Int) + 1)), .int .i64 (if (d : Int) > (m.depth : Int) then (d : Int) else (m.depth : Int)), .int .i64 72]]) (by kernel_rfl) (by rw [e1, e2])) (Ent.refl _ _ _) (by kernel_rfl) ⟨rfl, rfl⟩
    · have c2 : ¬ (d : Int) > 40 := c2
      cases g with
      | true =>
        have hn : nodeM m d true = ⟨m.size + 1, max m.depth d, m.err⟩ := by rw [nodeM, if_neg (by omega), if_neg (by omega), if_pos rfl]
        rw [hn]
        repeat first | refine opsStep ?_ | refine codeStep ?_ | refine drawStep ?_
        exact finR (l := []) (v := .tup []) (H₁ := [.cells 0 [.int .i64 (m.size + 1 : Nat), .int .i64 (max m.depth d : Nat), .int .i64 m.err]]) trivial (Eq.trans (b := [.cells 0 [.int .i64 (IntKind.wrap .i64 ((m.size : Int) + 1)), .int .i64 (if (d : Int) > (m.depth : Int) then (d : Int) else (m.depth : Int)), .int .i64 m.err]]) (by kernel_rfl) (by rw [e1, e2])) (Ent.refl _ _ _) (by kernel_rfl) ⟨rfl, rfl⟩
      | false =>
        have hn : nodeM m d false = ⟨m.size + 1, max m.depth d, 3⟩ := by rw [nodeM, if_neg (by omega), if_neg (by omega), if_neg (by simp)]
        rw [hn]
        repeat first | refine opsStep ?_ | refine codeStep ?_ | refine drawStep ?_
        exact finR (l := []) (v := .tup []) (H₁ := [.cells 0 [.int .i64 (m.size + 1 : Nat), .int .i64 (max m.depth d : Nat), .int .i64 3]]) trivial (Eq.trans (b := [.cells 0 [.int .i64 (IntKind.wrap .i64 ((m.size : Int) + 1)), .int .i64 (if (d : Int) > (m.depth : Int) then (d : Int) else (m.depth : Int)), .int .i64 3]]) (by kernel_rfl) (by rw [e1, e2])) (Ent.refl _ _ _) (by kernel_rfl) ⟨rfl, rfl⟩

theorem bel1 (m : Ms) : blksBel 1 [.cells 0 (msC m)] := by simp only [blksBel, Blk.bel]; exact ⟨msC_bel _ _, trivial⟩
theorem r06_term : ∀ (n : Nat) (t : TT), t.nodes ≤ n → t.ok → ∀ (m : Ms) (d : Nat), MsOk m d → ACall Tryd.prog 37 [.ref 0 0 0, .agg t.cells, .int .i64 d] [.cells 0 (msC m)] fun o H' => o = .ret (.tup []) ∧ H' = [.cells 0 (msC (t.walk d m))] := by
  intro n
  induction n with
  | zero => intro t h; rcases t with ⟨op, num, name, k, args⟩; rw [TT.nodes] at h; omega
  | succ n ih =>
    intro t hnodes hok m d hm
    have hgood := r06_wellTerm t (by cases t; rw [TT.ok] at hok; have := hok.2.2.1; show List.length _ < _; simp only [TT.name]; omega)
    rw [TT.cells_eq] at hgood ⊢
    rcases t with ⟨op, num, name, k, args⟩
    have hwk : TT.walk ⟨op, num, name, k, args⟩ d m = if (nodeM m d (goodT ⟨op, num, name, k, args⟩)).err ≠ 0 then nodeM m d (goodT ⟨op, num, name, k, args⟩) else ttsWalk args (d + 1) (nodeM m d (goodT ⟨op, num, name, k, args⟩)) := by rw [TT.walk]
    rw [TT.ok] at hok
    rw [TT.nodes] at hnodes
    generalize goodT ⟨op, num, name, k, args⟩ = g at *
    generalize TT.walk ⟨op, num, name, k, args⟩ d m = w at *
    simp only [TT.op, TT.num, TT.name, TT.k, TT.args] at hgood ⊢
    have hal := hok.2.2.2.1
    have hao := hok.2.2.2.2
    have hd := hm.d
    have hdi : IntKind.wrap .i64 ((d : Int) + 1) = ((d + 1 : Nat) : Int) := by rw [IntWalk.i64_in _ (by omega)]; simp
    refine ACall.of_sw 35 Tryd.func37 rfl Tryd.ntmps37 (by kernel_rfl) (Nat.le_of_ble_eq_true (by kernel_rfl)) ?_; refine SW.of_vc ?_
    repeat first | refine opsStep ?_ | refine codeStep ?_ | refine drawStep ?_
    refine callP hgood ?_
    repeat first | refine opsStep ?_ | refine codeStep ?_ | refine drawStep ?_
    refine callT (args := [.ref 0 0 0, .int .i64 d, .bool g]) (r06_node m d g hm) [.cells 0 (tC op num name k args)] rfl rfl (by simp [bels, AV.bel]) (bel1 m) (bel1 _) (by simp [AV.bel, bels]) ?_
    repeat first | refine opsStep ?_ | refine codeStep ?_ | refine drawStep ?_
    refine loopE_of (ι := {x : Nat × Ms // x.1 ≤ args.length ∧ w = (if x.2.err ≠ 0 then x.2 else ttsWalk (args.drop x.1) (d + 1) x.2) ∧ (x.2.err = 0 → MsOk x.2 (d + 1))}) (fun x => (fr [(0, .ref 0 0 0), (2, .int .i64 d), (4, .ref 1 0 0), (6, .int .i64 x.1.1)], [.cells 0 (msC x.1.2), .cells 0 (tC op num name k args)])) (fun x => args.length - x.1.1)
      ⟨(0, nodeM m d g), Nat.zero_le _, hwk, fun e => nodeM_bd hm e⟩ (Ent.fr' ⟨(by kernel_rfl), (by kernel_rfl), (by kernel_rfl), (by kernel_rfl), trivial⟩ (by kernel_rfl)) ?_
    rintro ⟨⟨i, mi⟩, h1, h2, h3⟩
    simp only at h1 h2 h3
    repeat first | refine opsStep ?_ | refine codeStep ?_ | refine drawStep ?_
    refine decB_dec (fun hlt => ?_) (fun hlt => ?_)
    · have hi : i < args.length := by have : (i : Int) < args.length := hlt; omega
      clear hlt
      repeat first | refine opsStep ?_ | refine codeStep ?_ | refine drawStep ?_
      refine decB_dec (fun he => ?_) (fun he => ?_)
      · have he : mi.err = 0 := he
        rw [if_neg (by simp [he])] at h2
        have hld : ((ttsC args).drop ((i : Int).toNat * 4)).take 4 = (args[i]'hi).cells := by rw [Int.toNat_natCast]; exact ttsC_at hi
        have hfit : 4 ≤ ((ttsC args).drop ((i : Int).toNat * 4)).length := by rw [List.length_drop, ttsC_len, Int.toNat_natCast]; omega
        have hrec := ih (args[i]'hi) (by have := tts_nodes hi; omega) (ttsOk_iff.1 hao _ (List.getElem_mem hi)) mi (d + 1) (h3 he)
        have hstep := ttsWalk_drop hi (d + 1) mi
        rw [← h2] at hstep
        have hao' := @TT.walk_ok (args[i]'hi) (d + 1) mi (h3 he)
        have haB : bels 1 (args[i]'hi).cells := closeds_bel _ (TT.cells_closed (args[i]'hi))
        rw [← hld, ← hdi] at hrec
        rw [← hld] at haB
        generalize TT.walk (args[i]'hi) (d + 1) mi = wi at *
        repeat first | refine opsStep ?_ | refine codeStep ?_ | refine drawStep ?_
        refine guardE_of ⟨by omega, by show (i : Int) < args.length; omega⟩ ?_
        repeat first | refine opsStep ?_ | refine codeStep ?_ | refine drawStep ?_
        refine guardE_of hfit ?_
        repeat first | refine opsStep ?_ | refine codeStep ?_ | refine drawStep ?_
        refine callT (args := [.ref 0 0 0, .agg (((ttsC args).drop ((i : Int).toNat * 4)).take 4), .int .i64 (IntKind.wrap .i64 ((d : Int) + 1))]) hrec [.cells 0 (tC op num name k args)] rfl rfl (by simp only [bels, AV.bel]; exact ⟨by show 0 < 1; decide, haB, trivial, trivial⟩) (bel1 mi) (bel1 _) (by simp [AV.bel, bels]) ?_
        repeat first | refine opsStep ?_ | refine codeStep ?_ | refine drawStep ?_
        exact ⟨⟨(i + 1, wi), hi, hstep, hao'⟩, (by show args.length - (i + 1) < args.length - i; omega), Ent.fr' ⟨(by kernel_rfl), (by kernel_rfl), (by kernel_rfl), inc_slot (i := i) (by omega), trivial⟩ (by kernel_rfl)⟩
      · have he : ¬ mi.err = 0 := he
        rw [if_pos he] at h2
        subst h2
        repeat first | refine opsStep ?_ | refine codeStep ?_ | refine drawStep ?_
        exact finR (l := []) (v := .tup []) (H₁ := [.cells 0 (msC w), .cells 0 (tC op num name k args)]) trivial (by kernel_rfl) (Ent.frD (l := []) (H' := [.cells 0 (msC w)]) trivial rfl (Nat.le_refl 1) trivial (bel1 _)) (by kernel_rfl) ⟨rfl, rfl⟩
    · have hi : i = args.length := by have : ¬ (i : Int) < args.length := hlt; omega
      clear hlt
      subst hi
      rw [List.drop_length, ttsWalk, ite_self] at h2
      subst h2
      repeat first | refine opsStep ?_ | refine codeStep ?_ | refine drawStep ?_
      exact finR (l := []) (v := .tup []) (H₁ := [.cells 0 (msC w), .cells 0 (tC op num name k args)]) trivial (by kernel_rfl) (Ent.frD (l := []) (H' := [.cells 0 (msC w)]) trivial rfl (Nat.le_refl 1) trivial (bel1 _)) (by kernel_rfl) ⟨rfl, rfl⟩

theorem r06_CheckTerm (t : TT) (hok : t.ok) : Pure Tryd.prog 18 [.agg t.cells] (.int .i64 (chkT t)) := by
  have hw := r06_term _ t (Nat.le_refl _) hok ms0 1 ⟨by decide, by decide, by decide⟩
  have hxl := TT.cells_len t
  have hxc := TT.cells_closed t
  rw [chkT]
  generalize TT.walk t 1 ms0 = m at *
  generalize t.cells = x at *
  have hcl : (x.drop 0).take 4 = x := by rw [List.drop_zero, List.take_of_length_le (by omega)]
  refine Pure.of_sw 13 Tryd.func18 rfl Tryd.ntmps18 (by kernel_rfl) (Nat.le_of_ble_eq_true (by kernel_rfl)) (by simp only [closeds, AV.closed]; exact ⟨hxc, trivial⟩) (by simp only [AV.closed]) ?_
  refine SW.of_vc ?_
  repeat first | refine opsStep ?_ | refine codeStep ?_ | refine drawStep ?_
  refine guardE_of (by show 0 + 4 ≤ x.length; omega) ?_
  repeat first | refine opsStep ?_ | refine codeStep ?_ | refine drawStep ?_
  refine callF (args := [.ref 0 0 0, .agg x, .int .i64 1]) («as» := [.ref 1 0 0, .agg ((x.drop 0).take 4), .int .i64 1]) [1] hw (by decide) (by intro b hb; simp at hb; show b < 2; omega) rfl ?_ ?_ ?_ ?_ ?_
  · rfl
  · simp only [bels, AV.bel]; exact ⟨by show 0 < 1; decide, closeds_bel _ hxc, trivial, trivial⟩
  · exact bel1 _
  · rw [hcl]
    simp only [rns, AV.rn, closeds_rn _ hxc]
    rfl
  rintro _ _ ⟨rfl, rfl⟩
  repeat first | refine opsStep ?_ | refine codeStep ?_ | refine drawStep ?_
  exact finV (v' := .int .i64 m.err) (by kernel_rfl) rfl

end Tab
