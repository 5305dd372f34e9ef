/-
  No cell of these rows narrows 'for every input' (looked for: loops, veiled, ifaces, maps, wideKeys, modest, calm, conditions, laid).
  DERIVED. THE GIVEN ROWS OF THIS SEAT. 5 by the template 'for every input the law returns true; each argument reads behind the call as it read before'; 0 by the template 'total and deterministic' (their statements: YtodalaammpgjlaaTotals.lean).
  GIVEN WITH THE SEED: the statements are not yours to turn. If you find one false, say at which input.
  Laid BY PROGRAM, IN A SANDBOX (cutbox-rows.mjs): the forced cells as the released guide's own fill.sh prints them over the translation d658472d0da31875… (all of the seat's roots in one cut). By AI agents, Wed Nov 11 2026. No macro, syntax, notation, axiom, sorry.
-/
import Derived.Test.YtodalaammpgjlaaChecked
import GoSem.Claim
import GoSem.ClaimJoined
import GoSem.ClaimMapViews
import Derived.JoinedTies
import Derived.KernelRfl
namespace Go.Proofs.Ytodalaammpgjlaa
/- THE CELL 'sum', in the pinned program and in every row, IS THE sha256 OF THE DUMP (.gsa) THAT YtodalaammpgjlaaProg.lean LOADS. Nothing in Lean hashes anything: it is a label: what it is worth is what the hold of that sum in a sandbox is worth. -/
noncomputable def Try.pinned : Pinned := { name := "ytodalaammpgjlaa", sum := "d658472d0da318753862f79a9390291bf35b33d43e45d180f76f17846d2c5e47", checked := Try.checked }
namespace Rows
def none {H : Type} : Left H := { results := [], args := [] }

/-- 'tabardlaw15.TrackWidens': WHATEVER THE INPUT: true; the input reads as it did. -/
def trackWidensSpec : ChangeSpec := { name := "trackWidens", fn := fun _ => fun
  | [d1, d2] => { results := [.lit (.bool true)], args := [d1, d2] }
  | _ => none }
def trackWidensRow : OpenClaim := { program := "ytodalaammpgjlaa", sum := "d658472d0da318753862f79a9390291bf35b33d43e45d180f76f17846d2c5e47", func := "tabard/tabardlaw15.TrackWidens", spec := "trackWidens", plainKeys := false, apart := false }
def TrackWidensSaid : Prop := trackWidensRow.holds Try.pinned (OpenSpec.ofChange trackWidensSpec)

/-- ITS FALSE NEIGHBOUR: 'it returns false'. Refute it at one input. -/
def trackWidensWrong : ChangeSpec := { name := "trackWidens", fn := fun _ => fun
  | [d1, d2] => { results := [.lit (.bool false)], args := [d1, d2] }
  | _ => none }
def TrackWidensWrongFalsely : Prop := trackWidensRow.holds Try.pinned (OpenSpec.ofChange trackWidensWrong)

/-- 'tabardlaw15.TrackMeans': WHATEVER THE INPUT: true; the input reads as it did. -/
def trackMeansSpec : ChangeSpec := { name := "trackMeans", fn := fun _ => fun
  | [d1, d2, d3] => { results := [.lit (.bool true)], args := [d1, d2, d3] }
  | _ => none }
def trackMeansRow : OpenClaim := { program := "ytodalaammpgjlaa", sum := "d658472d0da318753862f79a9390291bf35b33d43e45d180f76f17846d2c5e47", func := "tabard/tabardlaw15.TrackMeans", spec := "trackMeans", unfollowed := true, recurses := true, plainKeys := false, apart := false }
def TrackMeansSaid : Prop := trackMeansRow.holds Try.pinned (OpenSpec.ofChange trackMeansSpec)

/-- ITS FALSE NEIGHBOUR: 'it returns false'. Refute it at one input. -/
def trackMeansWrong : ChangeSpec := { name := "trackMeans", fn := fun _ => fun
  | [d1, d2, d3] => { results := [.lit (.bool false)], args := [d1, d2, d3] }
  | _ => none }
def TrackMeansWrongFalsely : Prop := trackMeansRow.holds Try.pinned (OpenSpec.ofChange trackMeansWrong)

/-- 'tabardlaw20.CountAll': WHATEVER THE INPUT: true; the input reads as it did. -/
def countAllSpec : ChangeSpec := { name := "countAll", fn := fun _ => fun
  | [d] => { results := [.lit (.bool true)], args := [d] }
  | _ => none }
def countAllRow : OpenClaim := { program := "ytodalaammpgjlaa", sum := "d658472d0da318753862f79a9390291bf35b33d43e45d180f76f17846d2c5e47", func := "tabard/tabardlaw20.CountAll", spec := "countAll", unfollowed := true, recurses := true, plainKeys := false, apart := false }
def CountAllSaid : Prop := countAllRow.holds Try.pinned (OpenSpec.ofChange countAllSpec)

/-- ITS FALSE NEIGHBOUR: 'it returns false'. Refute it at one input. -/
def countAllWrong : ChangeSpec := { name := "countAll", fn := fun _ => fun
  | [d] => { results := [.lit (.bool false)], args := [d] }
  | _ => none }
def CountAllWrongFalsely : Prop := countAllRow.holds Try.pinned (OpenSpec.ofChange countAllWrong)

/-- 'tabardlaw20.CountUpto': WHATEVER THE INPUT: true; the input reads as it did. -/
def countUptoSpec : ChangeSpec := { name := "countUpto", fn := fun _ => fun
  | [d1, d2] => { results := [.lit (.bool true)], args := [d1, d2] }
  | _ => none }
def countUptoRow : OpenClaim := { program := "ytodalaammpgjlaa", sum := "d658472d0da318753862f79a9390291bf35b33d43e45d180f76f17846d2c5e47", func := "tabard/tabardlaw20.CountUpto", spec := "countUpto", unfollowed := true, recurses := true, plainKeys := false, apart := false }
def CountUptoSaid : Prop := countUptoRow.holds Try.pinned (OpenSpec.ofChange countUptoSpec)

/-- ITS FALSE NEIGHBOUR: 'it returns false'. Refute it at one input. -/
def countUptoWrong : ChangeSpec := { name := "countUpto", fn := fun _ => fun
  | [d1, d2] => { results := [.lit (.bool false)], args := [d1, d2] }
  | _ => none }
def CountUptoWrongFalsely : Prop := countUptoRow.holds Try.pinned (OpenSpec.ofChange countUptoWrong)

/-- 'tabardlaw20.CountRises': WHATEVER THE INPUT: true; the input reads as it did. -/
def countRisesSpec : ChangeSpec := { name := "countRises", fn := fun _ => fun
  | [d] => { results := [.lit (.bool true)], args := [d] }
  | _ => none }
def countRisesRow : OpenClaim := { program := "ytodalaammpgjlaa", sum := "d658472d0da318753862f79a9390291bf35b33d43e45d180f76f17846d2c5e47", func := "tabard/tabardlaw20.CountRises", spec := "countRises", unfollowed := true, recurses := true, plainKeys := false, apart := false }
def CountRisesSaid : Prop := countRisesRow.holds Try.pinned (OpenSpec.ofChange countRisesSpec)

/-- ITS FALSE NEIGHBOUR: 'it returns false'. Refute it at one input. -/
def countRisesWrong : ChangeSpec := { name := "countRises", fn := fun _ => fun
  | [d] => { results := [.lit (.bool false)], args := [d] }
  | _ => none }
def CountRisesWrongFalsely : Prop := countRisesRow.holds Try.pinned (OpenSpec.ofChange countRisesWrong)

/- THE SECOND FORM. 'bulk': how many values and letters a reading holds, each counted each time it is reached (what is shared counts as often as it is met; a slice's spare places count too). A statement '..UptoSaid' is the law's where the arguments, and the package variables that the reading takes, are together of bulk at most 1048576: NARROWER than '..Said'. Prove '..Said' where nothing that the law and all that it calls make is longer than what came in: it says more and counts as full. Else prove '..UptoSaid'. A law counts once. -/
mutual
def uptoBulk {H : Type} : DataW H → Nat
  | .lit (.string bytes) => bytes.length + 1
  | .lit _ => 1
  | .nil => 1
  | .ptr d => uptoBulk d + 1
  | .slice elems spare => uptoBulkAll elems + uptoBulkAll spare + 1
  | .agg parts => uptoBulkAll parts + 1
  | .iface _ d => uptoBulk d + 1
  | .map entries => uptoBulkEntries entries + 1
  | .held _ => 1
def uptoBulkAll {H : Type} : List (DataW H) → Nat
  | [] => 0
  | d :: r => uptoBulk d + uptoBulkAll r
def uptoBulkEntries {H : Type} : List (Lit × DataW H) → Nat
  | [] => 0
  | x :: r => uptoBulkEntry x + uptoBulkEntries r
def uptoBulkEntry {H : Type} : Lit × DataW H → Nat
  | (.string bytes, d) => bytes.length + uptoBulk d + 1
  | (_, d) => uptoBulk d + 1
 end
def uptoSmall : (H : Type) → List (DataW H) → Bool := fun _ ds => decide (uptoBulkAll ds ≤ 1048576)
def OpenSpec.upto (s : _root_.Go.ChangeSpec) : _root_.Go.OpenSpec := { _root_.Go.OpenSpec.ofChange s with cond := some uptoSmall }

/-- 'tabardlaw15.TrackWidens', WHERE WHAT IT READS IS OF BULK AT MOST 1048576: true; the input reads as it did. -/
def trackWidensUptoRow : OpenClaim := { program := "ytodalaammpgjlaa", sum := "d658472d0da318753862f79a9390291bf35b33d43e45d180f76f17846d2c5e47", func := "tabard/tabardlaw15.TrackWidens", spec := "trackWidens", plainKeys := false, apart := false, narrowed := true }
def TrackWidensUptoSaid : Prop := trackWidensUptoRow.holds Try.pinned (OpenSpec.upto trackWidensSpec)

/-- 'tabardlaw15.TrackMeans', WHERE WHAT IT READS IS OF BULK AT MOST 1048576: true; the input reads as it did. -/
def trackMeansUptoRow : OpenClaim := { program := "ytodalaammpgjlaa", sum := "d658472d0da318753862f79a9390291bf35b33d43e45d180f76f17846d2c5e47", func := "tabard/tabardlaw15.TrackMeans", spec := "trackMeans", unfollowed := true, recurses := true, plainKeys := false, apart := false, narrowed := true }
def TrackMeansUptoSaid : Prop := trackMeansUptoRow.holds Try.pinned (OpenSpec.upto trackMeansSpec)

/-- 'tabardlaw20.CountAll', WHERE WHAT IT READS IS OF BULK AT MOST 1048576: true; the input reads as it did. -/
def countAllUptoRow : OpenClaim := { program := "ytodalaammpgjlaa", sum := "d658472d0da318753862f79a9390291bf35b33d43e45d180f76f17846d2c5e47", func := "tabard/tabardlaw20.CountAll", spec := "countAll", unfollowed := true, recurses := true, plainKeys := false, apart := false, narrowed := true }
def CountAllUptoSaid : Prop := countAllUptoRow.holds Try.pinned (OpenSpec.upto countAllSpec)

/-- 'tabardlaw20.CountUpto', WHERE WHAT IT READS IS OF BULK AT MOST 1048576: true; the input reads as it did. -/
def countUptoUptoRow : OpenClaim := { program := "ytodalaammpgjlaa", sum := "d658472d0da318753862f79a9390291bf35b33d43e45d180f76f17846d2c5e47", func := "tabard/tabardlaw20.CountUpto", spec := "countUpto", unfollowed := true, recurses := true, plainKeys := false, apart := false, narrowed := true }
def CountUptoUptoSaid : Prop := countUptoUptoRow.holds Try.pinned (OpenSpec.upto countUptoSpec)

/-- 'tabardlaw20.CountRises', WHERE WHAT IT READS IS OF BULK AT MOST 1048576: true; the input reads as it did. -/
def countRisesUptoRow : OpenClaim := { program := "ytodalaammpgjlaa", sum := "d658472d0da318753862f79a9390291bf35b33d43e45d180f76f17846d2c5e47", func := "tabard/tabardlaw20.CountRises", spec := "countRises", unfollowed := true, recurses := true, plainKeys := false, apart := false, narrowed := true }
def CountRisesUptoSaid : Prop := countRisesUptoRow.holds Try.pinned (OpenSpec.upto countRisesSpec)

end Rows
end Go.Proofs.Ytodalaammpgjlaa
