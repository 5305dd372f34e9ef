/-
  No cell of these rows narrows 'for every input' (looked for: loops, veiled, ifaces, maps, wideKeys, modest, calm, conditions, laid).
  DERIVED. THE GIVEN ROWS OF THIS SEAT. 6 by the template 'for every input the law returns true; each argument reads behind the call as it read before'; 0 by the template 'total and deterministic' (their statements: YtbglkpnchafdpaaTotals.lean).
  GIVEN WITH THE SEED: the statements are not yours to turn. If you find one false, say at which input.
  Laid BY PROGRAM, IN A SANDBOX (cutbox-rows.mjs): the forced cells as the released guide's own fill.sh prints them over the translation 279d55d4ee7e7360… (all of the seat's roots in one cut). By AI agents, Wed Nov 11 2026. No macro, syntax, notation, axiom, sorry.
-/
import Derived.Test.YtbglkpnchafdpaaChecked
import GoSem.Claim
import GoSem.ClaimJoined
import GoSem.ClaimMapViews
import Derived.JoinedTies
import Derived.KernelRfl
namespace Go.Proofs.Ytbglkpnchafdpaa
/- THE CELL 'sum', in the pinned program and in every row, IS THE sha256 OF THE DUMP (.gsa) THAT YtbglkpnchafdpaaProg.lean LOADS. Nothing in Lean hashes anything: it is a label: what it is worth is what the hold of that sum in a sandbox is worth. -/
noncomputable def Try.pinned : Pinned := { name := "ytbglkpnchafdpaa", sum := "279d55d4ee7e7360db1825cc6425ba105170fa8f640c0677151fb2128a098148", checked := Try.checked }
namespace Rows
def none {H : Type} : Left H := { results := [], args := [] }

/-- 'tabardlaw15.TrackMeans': WHATEVER THE INPUT: true; the input reads as it did. -/
def trackMeansSpec : ChangeSpec := { name := "trackMeans", fn := fun _ => fun
  | [d1, d2, d3] => { results := [.lit (.bool true)], args := [d1, d2, d3] }
  | _ => none }
def trackMeansRow : OpenClaim := { program := "ytbglkpnchafdpaa", sum := "279d55d4ee7e7360db1825cc6425ba105170fa8f640c0677151fb2128a098148", func := "tabard/tabardlaw15.TrackMeans", spec := "trackMeans", unfollowed := true, recurses := true, plainKeys := false, apart := false }
def TrackMeansSaid : Prop := trackMeansRow.holds Try.pinned (OpenSpec.ofChange trackMeansSpec)

/-- ITS FALSE NEIGHBOUR: 'it returns false'. Refute it at one input. -/
def trackMeansWrong : ChangeSpec := { name := "trackMeans", fn := fun _ => fun
  | [d1, d2, d3] => { results := [.lit (.bool false)], args := [d1, d2, d3] }
  | _ => none }
def TrackMeansWrongFalsely : Prop := trackMeansRow.holds Try.pinned (OpenSpec.ofChange trackMeansWrong)

/-- 'tabardlaw16.ProdNots': WHATEVER THE INPUT: true; the input reads as it did. -/
def prodNotsSpec : ChangeSpec := { name := "prodNots", fn := fun _ => fun
  | [d] => { results := [.lit (.bool true)], args := [d] }
  | _ => none }
def prodNotsRow : OpenClaim := { program := "ytbglkpnchafdpaa", sum := "279d55d4ee7e7360db1825cc6425ba105170fa8f640c0677151fb2128a098148", func := "tabard/tabardlaw16.ProdNots", spec := "prodNots", unfollowed := true, recurses := true, plainKeys := false, apart := false }
def ProdNotsSaid : Prop := prodNotsRow.holds Try.pinned (OpenSpec.ofChange prodNotsSpec)

/-- ITS FALSE NEIGHBOUR: 'it returns false'. Refute it at one input. -/
def prodNotsWrong : ChangeSpec := { name := "prodNots", fn := fun _ => fun
  | [d] => { results := [.lit (.bool false)], args := [d] }
  | _ => none }
def ProdNotsWrongFalsely : Prop := prodNotsRow.holds Try.pinned (OpenSpec.ofChange prodNotsWrong)

/-- 'tabardlaw16.ProdJoins': WHATEVER THE INPUT: true; the input reads as it did. -/
def prodJoinsSpec : ChangeSpec := { name := "prodJoins", fn := fun _ => fun
  | [d1, d2, d3] => { results := [.lit (.bool true)], args := [d1, d2, d3] }
  | _ => none }
def prodJoinsRow : OpenClaim := { program := "ytbglkpnchafdpaa", sum := "279d55d4ee7e7360db1825cc6425ba105170fa8f640c0677151fb2128a098148", func := "tabard/tabardlaw16.ProdJoins", spec := "prodJoins", unfollowed := true, recurses := true, plainKeys := false, apart := false }
def ProdJoinsSaid : Prop := prodJoinsRow.holds Try.pinned (OpenSpec.ofChange prodJoinsSpec)

/-- ITS FALSE NEIGHBOUR: 'it returns false'. Refute it at one input. -/
def prodJoinsWrong : ChangeSpec := { name := "prodJoins", fn := fun _ => fun
  | [d1, d2, d3] => { results := [.lit (.bool false)], args := [d1, d2, d3] }
  | _ => none }
def ProdJoinsWrongFalsely : Prop := prodJoinsRow.holds Try.pinned (OpenSpec.ofChange prodJoinsWrong)

/-- 'tabardlaw16.ProdLaws': WHATEVER THE INPUT: true; the input reads as it did. -/
def prodLawsSpec : ChangeSpec := { name := "prodLaws", fn := fun _ => fun
  | [d1, d2] => { results := [.lit (.bool true)], args := [d1, d2] }
  | _ => none }
def prodLawsRow : OpenClaim := { program := "ytbglkpnchafdpaa", sum := "279d55d4ee7e7360db1825cc6425ba105170fa8f640c0677151fb2128a098148", func := "tabard/tabardlaw16.ProdLaws", spec := "prodLaws", unfollowed := true, recurses := true, plainKeys := false, apart := false }
def ProdLawsSaid : Prop := prodLawsRow.holds Try.pinned (OpenSpec.ofChange prodLawsSpec)

/-- ITS FALSE NEIGHBOUR: 'it returns false'. Refute it at one input. -/
def prodLawsWrong : ChangeSpec := { name := "prodLaws", fn := fun _ => fun
  | [d1, d2] => { results := [.lit (.bool false)], args := [d1, d2] }
  | _ => none }
def ProdLawsWrongFalsely : Prop := prodLawsRow.holds Try.pinned (OpenSpec.ofChange prodLawsWrong)

/-- 'tabardlaw16.ProdNegates': WHATEVER THE INPUT: true; the input reads as it did. -/
def prodNegatesSpec : ChangeSpec := { name := "prodNegates", fn := fun _ => fun
  | [d1, d2] => { results := [.lit (.bool true)], args := [d1, d2] }
  | _ => none }
def prodNegatesRow : OpenClaim := { program := "ytbglkpnchafdpaa", sum := "279d55d4ee7e7360db1825cc6425ba105170fa8f640c0677151fb2128a098148", func := "tabard/tabardlaw16.ProdNegates", spec := "prodNegates", unfollowed := true, recurses := true, plainKeys := false, apart := false }
def ProdNegatesSaid : Prop := prodNegatesRow.holds Try.pinned (OpenSpec.ofChange prodNegatesSpec)

/-- ITS FALSE NEIGHBOUR: 'it returns false'. Refute it at one input. -/
def prodNegatesWrong : ChangeSpec := { name := "prodNegates", fn := fun _ => fun
  | [d1, d2] => { results := [.lit (.bool false)], args := [d1, d2] }
  | _ => none }
def ProdNegatesWrongFalsely : Prop := prodNegatesRow.holds Try.pinned (OpenSpec.ofChange prodNegatesWrong)

/-- 'tabardlaw16.ProdConnects': WHATEVER THE INPUT: true; the input reads as it did. -/
def prodConnectsSpec : ChangeSpec := { name := "prodConnects", fn := fun _ => fun
  | [d1, d2, d3, d4] => { results := [.lit (.bool true)], args := [d1, d2, d3, d4] }
  | _ => none }
def prodConnectsRow : OpenClaim := { program := "ytbglkpnchafdpaa", sum := "279d55d4ee7e7360db1825cc6425ba105170fa8f640c0677151fb2128a098148", func := "tabard/tabardlaw16.ProdConnects", spec := "prodConnects", unfollowed := true, recurses := true, plainKeys := false, apart := false }
def ProdConnectsSaid : Prop := prodConnectsRow.holds Try.pinned (OpenSpec.ofChange prodConnectsSpec)

/-- ITS FALSE NEIGHBOUR: 'it returns false'. Refute it at one input. -/
def prodConnectsWrong : ChangeSpec := { name := "prodConnects", fn := fun _ => fun
  | [d1, d2, d3, d4] => { results := [.lit (.bool false)], args := [d1, d2, d3, d4] }
  | _ => none }
def ProdConnectsWrongFalsely : Prop := prodConnectsRow.holds Try.pinned (OpenSpec.ofChange prodConnectsWrong)

/- THE SECOND FORM. 'bulk': how many values and letters a reading holds, each counted each time it is reached (what is shared counts as often as it is met; a slice's spare places count too). A statement '..UptoSaid' is the law's where the arguments, and the package variables that the reading takes, are together of bulk at most 1048576: NARROWER than '..Said'. Prove '..Said' where nothing that the law and all that it calls make is longer than what came in: it says more and counts as full. Else prove '..UptoSaid'. A law counts once. -/
mutual
def uptoBulk {H : Type} : DataW H → Nat
  | .lit (.string bytes) => bytes.length + 1
  | .lit _ => 1
  | .nil => 1
  | .ptr d => uptoBulk d + 1
  | .slice elems spare => uptoBulkAll elems + uptoBulkAll spare + 1
  | .agg parts => uptoBulkAll parts + 1
  | .iface _ d => uptoBulk d + 1
  | .map entries => uptoBulkEntries entries + 1
  | .held _ => 1
def uptoBulkAll {H : Type} : List (DataW H) → Nat
  | [] => 0
  | d :: r => uptoBulk d + uptoBulkAll r
def uptoBulkEntries {H : Type} : List (Lit × DataW H) → Nat
  | [] => 0
  | x :: r => uptoBulkEntry x + uptoBulkEntries r
def uptoBulkEntry {H : Type} : Lit × DataW H → Nat
  | (.string bytes, d) => bytes.length + uptoBulk d + 1
  | (_, d) => uptoBulk d + 1
 end
def uptoSmall : (H : Type) → List (DataW H) → Bool := fun _ ds => decide (uptoBulkAll ds ≤ 1048576)
def OpenSpec.upto (s : _root_.Go.ChangeSpec) : _root_.Go.OpenSpec := { _root_.Go.OpenSpec.ofChange s with cond := some uptoSmall }

/-- 'tabardlaw15.TrackMeans', WHERE WHAT IT READS IS OF BULK AT MOST 1048576: true; the input reads as it did. -/
def trackMeansUptoRow : OpenClaim := { program := "ytbglkpnchafdpaa", sum := "279d55d4ee7e7360db1825cc6425ba105170fa8f640c0677151fb2128a098148", func := "tabard/tabardlaw15.TrackMeans", spec := "trackMeans", unfollowed := true, recurses := true, plainKeys := false, apart := false, narrowed := true }
def TrackMeansUptoSaid : Prop := trackMeansUptoRow.holds Try.pinned (OpenSpec.upto trackMeansSpec)

/-- 'tabardlaw16.ProdNots', WHERE WHAT IT READS IS OF BULK AT MOST 1048576: true; the input reads as it did. -/
def prodNotsUptoRow : OpenClaim := { program := "ytbglkpnchafdpaa", sum := "279d55d4ee7e7360db1825cc6425ba105170fa8f640c0677151fb2128a098148", func := "tabard/tabardlaw16.ProdNots", spec := "prodNots", unfollowed := true, recurses := true, plainKeys := false, apart := false, narrowed := true }
def ProdNotsUptoSaid : Prop := prodNotsUptoRow.holds Try.pinned (OpenSpec.upto prodNotsSpec)

/-- 'tabardlaw16.ProdJoins', WHERE WHAT IT READS IS OF BULK AT MOST 1048576: true; the input reads as it did. -/
def prodJoinsUptoRow : OpenClaim := { program := "ytbglkpnchafdpaa", sum := "279d55d4ee7e7360db1825cc6425ba105170fa8f640c0677151fb2128a098148", func := "tabard/tabardlaw16.ProdJoins", spec := "prodJoins", unfollowed := true, recurses := true, plainKeys := false, apart := false, narrowed := true }
def ProdJoinsUptoSaid : Prop := prodJoinsUptoRow.holds Try.pinned (OpenSpec.upto prodJoinsSpec)

/-- 'tabardlaw16.ProdLaws', WHERE WHAT IT READS IS OF BULK AT MOST 1048576: true; the input reads as it did. -/
def prodLawsUptoRow : OpenClaim := { program := "ytbglkpnchafdpaa", sum := "279d55d4ee7e7360db1825cc6425ba105170fa8f640c0677151fb2128a098148", func := "tabard/tabardlaw16.ProdLaws", spec := "prodLaws", unfollowed := true, recurses := true, plainKeys := false, apart := false, narrowed := true }
def ProdLawsUptoSaid : Prop := prodLawsUptoRow.holds Try.pinned (OpenSpec.upto prodLawsSpec)

/-- 'tabardlaw16.ProdNegates', WHERE WHAT IT READS IS OF BULK AT MOST 1048576: true; the input reads as it did. -/
def prodNegatesUptoRow : OpenClaim := { program := "ytbglkpnchafdpaa", sum := "279d55d4ee7e7360db1825cc6425ba105170fa8f640c0677151fb2128a098148", func := "tabard/tabardlaw16.ProdNegates", spec := "prodNegates", unfollowed := true, recurses := true, plainKeys := false, apart := false, narrowed := true }
def ProdNegatesUptoSaid : Prop := prodNegatesUptoRow.holds Try.pinned (OpenSpec.upto prodNegatesSpec)

/-- 'tabardlaw16.ProdConnects', WHERE WHAT IT READS IS OF BULK AT MOST 1048576: true; the input reads as it did. -/
def prodConnectsUptoRow : OpenClaim := { program := "ytbglkpnchafdpaa", sum := "279d55d4ee7e7360db1825cc6425ba105170fa8f640c0677151fb2128a098148", func := "tabard/tabardlaw16.ProdConnects", spec := "prodConnects", unfollowed := true, recurses := true, plainKeys := false, apart := false, narrowed := true }
def ProdConnectsUptoSaid : Prop := prodConnectsUptoRow.holds Try.pinned (OpenSpec.upto prodConnectsSpec)

end Rows
end Go.Proofs.Ytbglkpnchafdpaa
