/-
  No cell of these rows narrows 'for every input' (looked for: loops, veiled, ifaces, maps, wideKeys, modest, calm, conditions, laid).
  DERIVED. THE GIVEN ROWS OF THIS SEAT. 8 by the template 'for every input the law returns true; each argument reads behind the call as it read before'; 0 by the template 'total and deterministic' (their statements: YtgadapklmphliaaTotals.lean).
  GIVEN WITH THE SEED: the statements are not yours to turn. If you find one false, say at which input.
  Laid BY PROGRAM, IN A SANDBOX (cutbox-rows.mjs): the forced cells as the released guide's own fill.sh prints them over the translation e9b89c3da9fc373b… (all of the seat's roots in one cut). By AI agents, Wed Nov 11 2026. No macro, syntax, notation, axiom, sorry.
-/
import Derived.Test.YtgadapklmphliaaChecked
import GoSem.Claim
import GoSem.ClaimJoined
import GoSem.ClaimMapViews
import Derived.JoinedTies
import Derived.KernelRfl
namespace Go.Proofs.Ytgadapklmphliaa
/- THE CELL 'sum', in the pinned program and in every row, IS THE sha256 OF THE DUMP (.gsa) THAT YtgadapklmphliaaProg.lean LOADS. Nothing in Lean hashes anything: it is a label: what it is worth is what the hold of that sum in a sandbox is worth. -/
noncomputable def Try.pinned : Pinned := { name := "ytgadapklmphliaa", sum := "e9b89c3da9fc373b82c63c7e32fe9dda9cdf7aa838f16e5fd2f4ed2299a7c2f9", checked := Try.checked }
namespace Rows
def none {H : Type} : Left H := { results := [], args := [] }

/-- 'tabardlaw20.CountAll': WHATEVER THE INPUT: true; the input reads as it did. -/
def countAllSpec : ChangeSpec := { name := "countAll", fn := fun _ => fun
  | [d] => { results := [.lit (.bool true)], args := [d] }
  | _ => none }
def countAllRow : OpenClaim := { program := "ytgadapklmphliaa", sum := "e9b89c3da9fc373b82c63c7e32fe9dda9cdf7aa838f16e5fd2f4ed2299a7c2f9", func := "tabard/tabardlaw20.CountAll", spec := "countAll", unfollowed := true, recurses := true, plainKeys := false, apart := false }
def CountAllSaid : Prop := countAllRow.holds Try.pinned (OpenSpec.ofChange countAllSpec)

/-- ITS FALSE NEIGHBOUR: 'it returns false'. Refute it at one input. -/
def countAllWrong : ChangeSpec := { name := "countAll", fn := fun _ => fun
  | [d] => { results := [.lit (.bool false)], args := [d] }
  | _ => none }
def CountAllWrongFalsely : Prop := countAllRow.holds Try.pinned (OpenSpec.ofChange countAllWrong)

/-- 'tabardlaw20.CountUpto': WHATEVER THE INPUT: true; the input reads as it did. -/
def countUptoSpec : ChangeSpec := { name := "countUpto", fn := fun _ => fun
  | [d1, d2] => { results := [.lit (.bool true)], args := [d1, d2] }
  | _ => none }
def countUptoRow : OpenClaim := { program := "ytgadapklmphliaa", sum := "e9b89c3da9fc373b82c63c7e32fe9dda9cdf7aa838f16e5fd2f4ed2299a7c2f9", func := "tabard/tabardlaw20.CountUpto", spec := "countUpto", unfollowed := true, recurses := true, plainKeys := false, apart := false }
def CountUptoSaid : Prop := countUptoRow.holds Try.pinned (OpenSpec.ofChange countUptoSpec)

/-- ITS FALSE NEIGHBOUR: 'it returns false'. Refute it at one input. -/
def countUptoWrong : ChangeSpec := { name := "countUpto", fn := fun _ => fun
  | [d1, d2] => { results := [.lit (.bool false)], args := [d1, d2] }
  | _ => none }
def CountUptoWrongFalsely : Prop := countUptoRow.holds Try.pinned (OpenSpec.ofChange countUptoWrong)

/-- 'tabardlaw20.CountRises': WHATEVER THE INPUT: true; the input reads as it did. -/
def countRisesSpec : ChangeSpec := { name := "countRises", fn := fun _ => fun
  | [d] => { results := [.lit (.bool true)], args := [d] }
  | _ => none }
def countRisesRow : OpenClaim := { program := "ytgadapklmphliaa", sum := "e9b89c3da9fc373b82c63c7e32fe9dda9cdf7aa838f16e5fd2f4ed2299a7c2f9", func := "tabard/tabardlaw20.CountRises", spec := "countRises", unfollowed := true, recurses := true, plainKeys := false, apart := false }
def CountRisesSaid : Prop := countRisesRow.holds Try.pinned (OpenSpec.ofChange countRisesSpec)

/-- ITS FALSE NEIGHBOUR: 'it returns false'. Refute it at one input. -/
def countRisesWrong : ChangeSpec := { name := "countRises", fn := fun _ => fun
  | [d] => { results := [.lit (.bool false)], args := [d] }
  | _ => none }
def CountRisesWrongFalsely : Prop := countRisesRow.holds Try.pinned (OpenSpec.ofChange countRisesWrong)

/-- 'tabardlaw20.CountLists': WHATEVER THE INPUT: true; the input reads as it did. -/
def countListsSpec : ChangeSpec := { name := "countLists", fn := fun _ => fun
  | [d1, d2] => { results := [.lit (.bool true)], args := [d1, d2] }
  | _ => none }
def countListsRow : OpenClaim := { program := "ytgadapklmphliaa", sum := "e9b89c3da9fc373b82c63c7e32fe9dda9cdf7aa838f16e5fd2f4ed2299a7c2f9", func := "tabard/tabardlaw20.CountLists", spec := "countLists", unfollowed := true, recurses := true, plainKeys := false, apart := false }
def CountListsSaid : Prop := countListsRow.holds Try.pinned (OpenSpec.ofChange countListsSpec)

/-- ITS FALSE NEIGHBOUR: 'it returns false'. Refute it at one input. -/
def countListsWrong : ChangeSpec := { name := "countLists", fn := fun _ => fun
  | [d1, d2] => { results := [.lit (.bool false)], args := [d1, d2] }
  | _ => none }
def CountListsWrongFalsely : Prop := countListsRow.holds Try.pinned (OpenSpec.ofChange countListsWrong)

/-- 'tabardlaw21.CompareOrders': WHATEVER THE INPUT: true; the input reads as it did. -/
def compareOrdersSpec : ChangeSpec := { name := "compareOrders", fn := fun _ => fun
  | [d1, d2, d3] => { results := [.lit (.bool true)], args := [d1, d2, d3] }
  | _ => none }
def compareOrdersRow : OpenClaim := { program := "ytgadapklmphliaa", sum := "e9b89c3da9fc373b82c63c7e32fe9dda9cdf7aa838f16e5fd2f4ed2299a7c2f9", func := "tabard/tabardlaw21.CompareOrders", spec := "compareOrders", unfollowed := true, recurses := true, plainKeys := false, apart := false }
def CompareOrdersSaid : Prop := compareOrdersRow.holds Try.pinned (OpenSpec.ofChange compareOrdersSpec)

/-- ITS FALSE NEIGHBOUR: 'it returns false'. Refute it at one input. -/
def compareOrdersWrong : ChangeSpec := { name := "compareOrders", fn := fun _ => fun
  | [d1, d2, d3] => { results := [.lit (.bool false)], args := [d1, d2, d3] }
  | _ => none }
def CompareOrdersWrongFalsely : Prop := compareOrdersRow.holds Try.pinned (OpenSpec.ofChange compareOrdersWrong)

/-- 'tabardlaw21.CompareTells': WHATEVER THE INPUT: true; the input reads as it did. -/
def compareTellsSpec : ChangeSpec := { name := "compareTells", fn := fun _ => fun
  | [d1, d2, d3] => { results := [.lit (.bool true)], args := [d1, d2, d3] }
  | _ => none }
def compareTellsRow : OpenClaim := { program := "ytgadapklmphliaa", sum := "e9b89c3da9fc373b82c63c7e32fe9dda9cdf7aa838f16e5fd2f4ed2299a7c2f9", func := "tabard/tabardlaw21.CompareTells", spec := "compareTells", unfollowed := true, recurses := true, plainKeys := false, apart := false }
def CompareTellsSaid : Prop := compareTellsRow.holds Try.pinned (OpenSpec.ofChange compareTellsSpec)

/-- ITS FALSE NEIGHBOUR: 'it returns false'. Refute it at one input. -/
def compareTellsWrong : ChangeSpec := { name := "compareTells", fn := fun _ => fun
  | [d1, d2, d3] => { results := [.lit (.bool false)], args := [d1, d2, d3] }
  | _ => none }
def CompareTellsWrongFalsely : Prop := compareTellsRow.holds Try.pinned (OpenSpec.ofChange compareTellsWrong)

/-- 'tabardlaw21.CompareCanon': WHATEVER THE INPUT: true; the input reads as it did. -/
def compareCanonSpec : ChangeSpec := { name := "compareCanon", fn := fun _ => fun
  | [d1, d2] => { results := [.lit (.bool true)], args := [d1, d2] }
  | _ => none }
def compareCanonRow : OpenClaim := { program := "ytgadapklmphliaa", sum := "e9b89c3da9fc373b82c63c7e32fe9dda9cdf7aa838f16e5fd2f4ed2299a7c2f9", func := "tabard/tabardlaw21.CompareCanon", spec := "compareCanon", unfollowed := true, recurses := true, plainKeys := false, apart := false }
def CompareCanonSaid : Prop := compareCanonRow.holds Try.pinned (OpenSpec.ofChange compareCanonSpec)

/-- ITS FALSE NEIGHBOUR: 'it returns false'. Refute it at one input. -/
def compareCanonWrong : ChangeSpec := { name := "compareCanon", fn := fun _ => fun
  | [d1, d2] => { results := [.lit (.bool false)], args := [d1, d2] }
  | _ => none }
def CompareCanonWrongFalsely : Prop := compareCanonRow.holds Try.pinned (OpenSpec.ofChange compareCanonWrong)

/-- 'tabardlaw20.CountJoins': WHATEVER THE INPUT: true; the input reads as it did. -/
def countJoinsSpec : ChangeSpec := { name := "countJoins", fn := fun _ => fun
  | [d1, d2, d3] => { results := [.lit (.bool true)], args := [d1, d2, d3] }
  | _ => none }
def countJoinsRow : OpenClaim := { program := "ytgadapklmphliaa", sum := "e9b89c3da9fc373b82c63c7e32fe9dda9cdf7aa838f16e5fd2f4ed2299a7c2f9", func := "tabard/tabardlaw20.CountJoins", spec := "countJoins", unfollowed := true, recurses := true, plainKeys := false, apart := false }
def CountJoinsSaid : Prop := countJoinsRow.holds Try.pinned (OpenSpec.ofChange countJoinsSpec)

/-- ITS FALSE NEIGHBOUR: 'it returns false'. Refute it at one input. -/
def countJoinsWrong : ChangeSpec := { name := "countJoins", fn := fun _ => fun
  | [d1, d2, d3] => { results := [.lit (.bool false)], args := [d1, d2, d3] }
  | _ => none }
def CountJoinsWrongFalsely : Prop := countJoinsRow.holds Try.pinned (OpenSpec.ofChange countJoinsWrong)

/- THE SECOND FORM. 'bulk': how many values and letters a reading holds, each counted each time it is reached (what is shared counts as often as it is met; a slice's spare places count too). A statement '..UptoSaid' is the law's where the arguments, and the package variables that the reading takes, are together of bulk at most 1048576: NARROWER than '..Said'. Prove '..Said' where nothing that the law and all that it calls make is longer than what came in: it says more and counts as full. Else prove '..UptoSaid'. A law counts once. -/
mutual
def uptoBulk {H : Type} : DataW H → Nat
  | .lit (.string bytes) => bytes.length + 1
  | .lit _ => 1
  | .nil => 1
  | .ptr d => uptoBulk d + 1
  | .slice elems spare => uptoBulkAll elems + uptoBulkAll spare + 1
  | .agg parts => uptoBulkAll parts + 1
  | .iface _ d => uptoBulk d + 1
  | .map entries => uptoBulkEntries entries + 1
  | .held _ => 1
def uptoBulkAll {H : Type} : List (DataW H) → Nat
  | [] => 0
  | d :: r => uptoBulk d + uptoBulkAll r
def uptoBulkEntries {H : Type} : List (Lit × DataW H) → Nat
  | [] => 0
  | x :: r => uptoBulkEntry x + uptoBulkEntries r
def uptoBulkEntry {H : Type} : Lit × DataW H → Nat
  | (.string bytes, d) => bytes.length + uptoBulk d + 1
  | (_, d) => uptoBulk d + 1
 end
def uptoSmall : (H : Type) → List (DataW H) → Bool := fun _ ds => decide (uptoBulkAll ds ≤ 1048576)
def OpenSpec.upto (s : _root_.Go.ChangeSpec) : _root_.Go.OpenSpec := { _root_.Go.OpenSpec.ofChange s with cond := some uptoSmall }

/-- 'tabardlaw20.CountAll', WHERE WHAT IT READS IS OF BULK AT MOST 1048576: true; the input reads as it did. -/
def countAllUptoRow : OpenClaim := { program := "ytgadapklmphliaa", sum := "e9b89c3da9fc373b82c63c7e32fe9dda9cdf7aa838f16e5fd2f4ed2299a7c2f9", func := "tabard/tabardlaw20.CountAll", spec := "countAll", unfollowed := true, recurses := true, plainKeys := false, apart := false, narrowed := true }
def CountAllUptoSaid : Prop := countAllUptoRow.holds Try.pinned (OpenSpec.upto countAllSpec)

/-- 'tabardlaw20.CountUpto', WHERE WHAT IT READS IS OF BULK AT MOST 1048576: true; the input reads as it did. -/
def countUptoUptoRow : OpenClaim := { program := "ytgadapklmphliaa", sum := "e9b89c3da9fc373b82c63c7e32fe9dda9cdf7aa838f16e5fd2f4ed2299a7c2f9", func := "tabard/tabardlaw20.CountUpto", spec := "countUpto", unfollowed := true, recurses := true, plainKeys := false, apart := false, narrowed := true }
def CountUptoUptoSaid : Prop := countUptoUptoRow.holds Try.pinned (OpenSpec.upto countUptoSpec)

/-- 'tabardlaw20.CountRises', WHERE WHAT IT READS IS OF BULK AT MOST 1048576: true; the input reads as it did. -/
def countRisesUptoRow : OpenClaim := { program := "ytgadapklmphliaa", sum := "e9b89c3da9fc373b82c63c7e32fe9dda9cdf7aa838f16e5fd2f4ed2299a7c2f9", func := "tabard/tabardlaw20.CountRises", spec := "countRises", unfollowed := true, recurses := true, plainKeys := false, apart := false, narrowed := true }
def CountRisesUptoSaid : Prop := countRisesUptoRow.holds Try.pinned (OpenSpec.upto countRisesSpec)

/-- 'tabardlaw20.CountLists', WHERE WHAT IT READS IS OF BULK AT MOST 1048576: true; the input reads as it did. -/
def countListsUptoRow : OpenClaim := { program := "ytgadapklmphliaa", sum := "e9b89c3da9fc373b82c63c7e32fe9dda9cdf7aa838f16e5fd2f4ed2299a7c2f9", func := "tabard/tabardlaw20.CountLists", spec := "countLists", unfollowed := true, recurses := true, plainKeys := false, apart := false, narrowed := true }
def CountListsUptoSaid : Prop := countListsUptoRow.holds Try.pinned (OpenSpec.upto countListsSpec)

/-- 'tabardlaw21.CompareOrders', WHERE WHAT IT READS IS OF BULK AT MOST 1048576: true; the input reads as it did. -/
def compareOrdersUptoRow : OpenClaim := { program := "ytgadapklmphliaa", sum := "e9b89c3da9fc373b82c63c7e32fe9dda9cdf7aa838f16e5fd2f4ed2299a7c2f9", func := "tabard/tabardlaw21.CompareOrders", spec := "compareOrders", unfollowed := true, recurses := true, plainKeys := false, apart := false, narrowed := true }
def CompareOrdersUptoSaid : Prop := compareOrdersUptoRow.holds Try.pinned (OpenSpec.upto compareOrdersSpec)

/-- 'tabardlaw21.CompareTells', WHERE WHAT IT READS IS OF BULK AT MOST 1048576: true; the input reads as it did. -/
def compareTellsUptoRow : OpenClaim := { program := "ytgadapklmphliaa", sum := "e9b89c3da9fc373b82c63c7e32fe9dda9cdf7aa838f16e5fd2f4ed2299a7c2f9", func := "tabard/tabardlaw21.CompareTells", spec := "compareTells", unfollowed := true, recurses := true, plainKeys := false, apart := false, narrowed := true }
def CompareTellsUptoSaid : Prop := compareTellsUptoRow.holds Try.pinned (OpenSpec.upto compareTellsSpec)

/-- 'tabardlaw21.CompareCanon', WHERE WHAT IT READS IS OF BULK AT MOST 1048576: true; the input reads as it did. -/
def compareCanonUptoRow : OpenClaim := { program := "ytgadapklmphliaa", sum := "e9b89c3da9fc373b82c63c7e32fe9dda9cdf7aa838f16e5fd2f4ed2299a7c2f9", func := "tabard/tabardlaw21.CompareCanon", spec := "compareCanon", unfollowed := true, recurses := true, plainKeys := false, apart := false, narrowed := true }
def CompareCanonUptoSaid : Prop := compareCanonUptoRow.holds Try.pinned (OpenSpec.upto compareCanonSpec)

/-- 'tabardlaw20.CountJoins', WHERE WHAT IT READS IS OF BULK AT MOST 1048576: true; the input reads as it did. -/
def countJoinsUptoRow : OpenClaim := { program := "ytgadapklmphliaa", sum := "e9b89c3da9fc373b82c63c7e32fe9dda9cdf7aa838f16e5fd2f4ed2299a7c2f9", func := "tabard/tabardlaw20.CountJoins", spec := "countJoins", unfollowed := true, recurses := true, plainKeys := false, apart := false, narrowed := true }
def CountJoinsUptoSaid : Prop := countJoinsUptoRow.holds Try.pinned (OpenSpec.upto countJoinsSpec)

end Rows
end Go.Proofs.Ytgadapklmphliaa
