/-
  No cell of these rows narrows 'for every input' (looked for: loops, veiled, ifaces, maps, wideKeys, modest, calm, conditions, laid).
  DERIVED. THE GIVEN ROWS OF THIS SEAT. 2 by the template 'for every input the law returns true; each argument reads behind the call as it read before'; 0 by the template 'total and deterministic' (their statements: YthdpblbclgpnjaaTotals.lean).
  GIVEN WITH THE SEED: the statements are not yours to turn. If you find one false, say at which input.
  Laid BY PROGRAM, IN A SANDBOX (cutbox-rows.mjs): the forced cells as the released guide's own fill.sh prints them over the translation cb6d1301abb18f90… (all of the seat's roots in one cut). By AI agents, Wed Nov 11 2026. No macro, syntax, notation, axiom, sorry.
-/
import Derived.Test.YthdpblbclgpnjaaChecked
import GoSem.Claim
import GoSem.ClaimJoined
import GoSem.ClaimMapViews
import Derived.JoinedTies
import Derived.KernelRfl
namespace Go.Proofs.Ythdpblbclgpnjaa
/- THE CELL 'sum', in the pinned program and in every row, IS THE sha256 OF THE DUMP (.gsa) THAT YthdpblbclgpnjaaProg.lean LOADS. Nothing in Lean hashes anything: it is a label: what it is worth is what the hold of that sum in a sandbox is worth. -/
noncomputable def Try.pinned : Pinned := { name := "ythdpblbclgpnjaa", sum := "cb6d1301abb18f9099e091b63d5730c2eeaf155b788f1ec0069193ff6f99fc4c", checked := Try.checked }
namespace Rows
def none {H : Type} : Left H := { results := [], args := [] }

/-- 'tabardlaw15.TrackBack': WHATEVER THE INPUT: true; the input reads as it did. -/
def trackBackSpec : ChangeSpec := { name := "trackBack", fn := fun _ => fun
  | [d1, d2, d3, d4, d5] => { results := [.lit (.bool true)], args := [d1, d2, d3, d4, d5] }
  | _ => none }
def trackBackRow : OpenClaim := { program := "ythdpblbclgpnjaa", sum := "cb6d1301abb18f9099e091b63d5730c2eeaf155b788f1ec0069193ff6f99fc4c", func := "tabard/tabardlaw15.TrackBack", spec := "trackBack", unfollowed := true, recurses := true, apart := false }
def TrackBackSaid : Prop := trackBackRow.holds Try.pinned (OpenSpec.ofChange trackBackSpec)

/-- ITS FALSE NEIGHBOUR: 'it returns false'. Refute it at one input. -/
def trackBackWrong : ChangeSpec := { name := "trackBack", fn := fun _ => fun
  | [d1, d2, d3, d4, d5] => { results := [.lit (.bool false)], args := [d1, d2, d3, d4, d5] }
  | _ => none }
def TrackBackWrongFalsely : Prop := trackBackRow.holds Try.pinned (OpenSpec.ofChange trackBackWrong)

/-- 'tabardlaw15.TrackTuples': WHATEVER THE INPUT: true; the input reads as it did. -/
def trackTuplesSpec : ChangeSpec := { name := "trackTuples", fn := fun _ => fun
  | [d1, d2, d3, d4] => { results := [.lit (.bool true)], args := [d1, d2, d3, d4] }
  | _ => none }
def trackTuplesRow : OpenClaim := { program := "ythdpblbclgpnjaa", sum := "cb6d1301abb18f9099e091b63d5730c2eeaf155b788f1ec0069193ff6f99fc4c", func := "tabard/tabardlaw15.TrackTuples", spec := "trackTuples", unfollowed := true, recurses := true, apart := false }
def TrackTuplesSaid : Prop := trackTuplesRow.holds Try.pinned (OpenSpec.ofChange trackTuplesSpec)

/-- ITS FALSE NEIGHBOUR: 'it returns false'. Refute it at one input. -/
def trackTuplesWrong : ChangeSpec := { name := "trackTuples", fn := fun _ => fun
  | [d1, d2, d3, d4] => { results := [.lit (.bool false)], args := [d1, d2, d3, d4] }
  | _ => none }
def TrackTuplesWrongFalsely : Prop := trackTuplesRow.holds Try.pinned (OpenSpec.ofChange trackTuplesWrong)

/- THE SECOND FORM. 'bulk': how many values and letters a reading holds, each counted each time it is reached (what is shared counts as often as it is met; a slice's spare places count too). A statement '..UptoSaid' is the law's where the arguments, and the package variables that the reading takes, are together of bulk at most 1048576: NARROWER than '..Said'. Prove '..Said' where nothing that the law and all that it calls make is longer than what came in: it says more and counts as full. Else prove '..UptoSaid'. A law counts once. -/
mutual
def uptoBulk {H : Type} : DataW H → Nat
  | .lit (.string bytes) => bytes.length + 1
  | .lit _ => 1
  | .nil => 1
  | .ptr d => uptoBulk d + 1
  | .slice elems spare => uptoBulkAll elems + uptoBulkAll spare + 1
  | .agg parts => uptoBulkAll parts + 1
  | .iface _ d => uptoBulk d + 1
  | .map entries => uptoBulkEntries entries + 1
  | .held _ => 1
def uptoBulkAll {H : Type} : List (DataW H) → Nat
  | [] => 0
  | d :: r => uptoBulk d + uptoBulkAll r
def uptoBulkEntries {H : Type} : List (Lit × DataW H) → Nat
  | [] => 0
  | x :: r => uptoBulkEntry x + uptoBulkEntries r
def uptoBulkEntry {H : Type} : Lit × DataW H → Nat
  | (.string bytes, d) => bytes.length + uptoBulk d + 1
  | (_, d) => uptoBulk d + 1
 end
def uptoSmall : (H : Type) → List (DataW H) → Bool := fun _ ds => decide (uptoBulkAll ds ≤ 1048576)
def OpenSpec.upto (s : _root_.Go.ChangeSpec) : _root_.Go.OpenSpec := { _root_.Go.OpenSpec.ofChange s with cond := some uptoSmall }

/-- 'tabardlaw15.TrackBack', WHERE WHAT IT READS IS OF BULK AT MOST 1048576: true; the input reads as it did. -/
def trackBackUptoRow : OpenClaim := { program := "ythdpblbclgpnjaa", sum := "cb6d1301abb18f9099e091b63d5730c2eeaf155b788f1ec0069193ff6f99fc4c", func := "tabard/tabardlaw15.TrackBack", spec := "trackBack", unfollowed := true, recurses := true, apart := false, narrowed := true }
def TrackBackUptoSaid : Prop := trackBackUptoRow.holds Try.pinned (OpenSpec.upto trackBackSpec)

/-- 'tabardlaw15.TrackTuples', WHERE WHAT IT READS IS OF BULK AT MOST 1048576: true; the input reads as it did. -/
def trackTuplesUptoRow : OpenClaim := { program := "ythdpblbclgpnjaa", sum := "cb6d1301abb18f9099e091b63d5730c2eeaf155b788f1ec0069193ff6f99fc4c", func := "tabard/tabardlaw15.TrackTuples", spec := "trackTuples", unfollowed := true, recurses := true, apart := false, narrowed := true }
def TrackTuplesUptoSaid : Prop := trackTuplesUptoRow.holds Try.pinned (OpenSpec.upto trackTuplesSpec)

end Rows
end Go.Proofs.Ythdpblbclgpnjaa
