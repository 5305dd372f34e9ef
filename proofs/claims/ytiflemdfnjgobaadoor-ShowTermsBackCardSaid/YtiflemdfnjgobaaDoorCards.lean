/-
  DERIVED. GIVEN WITH THE SEED: THE CARDS: each row of YtiflemdfnjgobaaDoorRows.lean that lists a variable, with what it lists TIED to the program's text (the seventh form; the later family's looks); each row that meets fmt, with fmt's text TOLD by the authors' own Lean function (tested against real Go, not proved from fmt's source: count such statements apart). THE CARD IS WHAT COUNTS. Prove the row's statement (the work); the ties are given (YtiflemdfnjgobaaDoorTie.lean); close each card by the builder's one call (the guide's Derived/Test/ToyasCard.lean, 'card_holds'). Laid BY PROGRAM, IN A SANDBOX (cutbox-door.mjs). By AI agents, Wed Nov 11 2026. No macro, syntax, notation, axiom, sorry.
-/
import Derived.Test.YtiflemdfnjgobaaDoorRows
import GoSem.ClaimSeven
namespace Go.Proofs.YtiflemdfnjgobaaDoor
namespace Rows

/-- THE TIED CARD OF 'tabardlaw08.ShowFormulas'. -/
def showFormulasCard : Claim7 := { stood := { row := showFormulasRow, standIns := [], harness := (true, "f304ccaa731a175196be80b1acf0568322c46c4e85f918fc3d223a6b504e70a5"), looks := false }, kinds := [], alts := [], laidByText := true, laidKinds := [.data, .data, .data], laidTests := true, laidLooks := .later }
def ShowFormulasCardSaid : Prop := Claim7.holds Tryd.pinned (.plain (OpenSpec.ofChange showFormulasSpec)) showFormulasCard

/-- THE TIED CARD OF 'tabardlaw08.ShowTerms'. -/
def showTermsCard : Claim7 := { stood := { row := showTermsRow, standIns := [], harness := (true, "f304ccaa731a175196be80b1acf0568322c46c4e85f918fc3d223a6b504e70a5"), looks := false }, kinds := [], alts := [], laidByText := true, laidKinds := [.data, .data, .data], laidTests := true, laidLooks := .later }
def ShowTermsCardSaid : Prop := Claim7.holds Tryd.pinned (.plain (OpenSpec.ofChange showTermsSpec)) showTermsCard

/-- THE TIED CARD OF 'tabardlaw07.ParseFormulas'. -/
def parseFormulasCard : Claim7 := { stood := { row := parseFormulasRow, standIns := [], harness := (true, "f304ccaa731a175196be80b1acf0568322c46c4e85f918fc3d223a6b504e70a5"), looks := false }, kinds := [], alts := [], laidByText := true, laidKinds := [.data, .listed, .data, .pinned], laidTests := true, laidLooks := .later }
def ParseFormulasCardSaid : Prop := Claim7.holds Tryd.pinned (.plain (OpenSpec.ofChange parseFormulasSpec)) parseFormulasCard

/-- THE TIED CARD OF 'tabardlaw07.ParseStops'. -/
def parseStopsCard : Claim7 := { stood := { row := parseStopsRow, standIns := [], harness := (true, "f304ccaa731a175196be80b1acf0568322c46c4e85f918fc3d223a6b504e70a5"), looks := false }, kinds := [], alts := [], laidByText := true, laidKinds := [.data, .listed, .data, .pinned], laidTests := true, laidLooks := .later }
def ParseStopsCardSaid : Prop := Claim7.holds Tryd.pinned (.plain (OpenSpec.ofChange parseStopsSpec)) parseStopsCard

/-- THE TIED CARD OF 'tabardlaw07.ParseTerms'. -/
def parseTermsCard : Claim7 := { stood := { row := parseTermsRow, standIns := [], harness := (true, "f304ccaa731a175196be80b1acf0568322c46c4e85f918fc3d223a6b504e70a5"), looks := false }, kinds := [], alts := [], laidByText := true, laidKinds := [.data, .listed, .data, .pinned], laidTests := true, laidLooks := .later }
def ParseTermsCardSaid : Prop := Claim7.holds Tryd.pinned (.plain (OpenSpec.ofChange parseTermsSpec)) parseTermsCard

/-- THE TIED CARD OF 'tabardlaw07.ParseBrackets'. -/
def parseBracketsCard : Claim7 := { stood := { row := parseBracketsRow, standIns := [], harness := (true, "f304ccaa731a175196be80b1acf0568322c46c4e85f918fc3d223a6b504e70a5"), looks := false }, kinds := [], alts := [], laidByText := true, laidKinds := [.data, .listed, .data, .pinned], laidTests := true, laidLooks := .later }
def ParseBracketsCardSaid : Prop := Claim7.holds Tryd.pinned (.plain (OpenSpec.ofChange parseBracketsSpec)) parseBracketsCard

/-- THE TIED CARD OF 'tabardlaw07.ParseBinds'. -/
def parseBindsCard : Claim7 := { stood := { row := parseBindsRow, standIns := [], harness := (true, "f304ccaa731a175196be80b1acf0568322c46c4e85f918fc3d223a6b504e70a5"), looks := false }, kinds := [], alts := [], laidByText := true, laidKinds := [.data, .listed, .data, .pinned], laidTests := true, laidLooks := .later }
def ParseBindsCardSaid : Prop := Claim7.holds Tryd.pinned (.plain (OpenSpec.ofChange parseBindsSpec)) parseBindsCard

/-- THE TIED CARD OF 'tabardlaw08.ShowTermsBack'. -/
def showTermsBackCard : Claim7 := { stood := { row := showTermsBackRow, standIns := [], harness := (true, "f304ccaa731a175196be80b1acf0568322c46c4e85f918fc3d223a6b504e70a5"), looks := false }, kinds := [], alts := [], laidByText := true, laidKinds := [.data, .data, .data, .data, .listed, .data, .pinned], laidTests := true, laidLooks := .later }
def ShowTermsBackCardSaid : Prop := Claim7.holds Tryd.pinned (.plain (OpenSpec.ofChange showTermsBackSpec)) showTermsBackCard

/-- THE TIED CARD OF 'tabardlaw08.ShowBack'. -/
def showBackCard : Claim7 := { stood := { row := showBackRow, standIns := [], harness := (true, "f304ccaa731a175196be80b1acf0568322c46c4e85f918fc3d223a6b504e70a5"), looks := false }, kinds := [], alts := [], laidByText := true, laidKinds := [.data, .data, .data, .data, .listed, .data, .pinned], laidTests := true, laidLooks := .later }
def ShowBackCardSaid : Prop := Claim7.holds Tryd.pinned (.plain (OpenSpec.ofChange showBackSpec)) showBackCard

/-- THE TIED CARD OF 'tabardlaw08.ShowReads'. -/
def showReadsCard : Claim7 := { stood := { row := showReadsRow, standIns := [], harness := (true, "f304ccaa731a175196be80b1acf0568322c46c4e85f918fc3d223a6b504e70a5"), looks := false }, kinds := [], alts := [], laidByText := true, laidKinds := [.data, .data, .data, .data, .listed, .data, .pinned], laidTests := true, laidLooks := .later }
def ShowReadsCardSaid : Prop := Claim7.holds Tryd.pinned (.plain (OpenSpec.ofChange showReadsSpec)) showReadsCard

/-- THE SECOND FORM's CARD OF 'tabardlaw08.ShowFormulas'. -/
def showFormulasUptoCard : Claim7 := { stood := { row := showFormulasUptoRow, standIns := [], harness := (true, "f304ccaa731a175196be80b1acf0568322c46c4e85f918fc3d223a6b504e70a5"), looks := false }, kinds := [], alts := [], laidByText := true, laidKinds := [.data, .data, .data], laidTests := true, laidLooks := .later }
def ShowFormulasUptoCardSaid : Prop := Claim7.holds Tryd.pinned (.plain (OpenSpec.upto showFormulasSpec)) showFormulasUptoCard

/-- THE SECOND FORM's CARD OF 'tabardlaw08.ShowTerms'. -/
def showTermsUptoCard : Claim7 := { stood := { row := showTermsUptoRow, standIns := [], harness := (true, "f304ccaa731a175196be80b1acf0568322c46c4e85f918fc3d223a6b504e70a5"), looks := false }, kinds := [], alts := [], laidByText := true, laidKinds := [.data, .data, .data], laidTests := true, laidLooks := .later }
def ShowTermsUptoCardSaid : Prop := Claim7.holds Tryd.pinned (.plain (OpenSpec.upto showTermsSpec)) showTermsUptoCard

/-- THE SECOND FORM's CARD OF 'tabardlaw07.ParseFormulas'. -/
def parseFormulasUptoCard : Claim7 := { stood := { row := parseFormulasUptoRow, standIns := [], harness := (true, "f304ccaa731a175196be80b1acf0568322c46c4e85f918fc3d223a6b504e70a5"), looks := false }, kinds := [], alts := [], laidByText := true, laidKinds := [.data, .listed, .data, .pinned], laidTests := true, laidLooks := .later }
def ParseFormulasUptoCardSaid : Prop := Claim7.holds Tryd.pinned (.plain (OpenSpec.upto parseFormulasSpec)) parseFormulasUptoCard

/-- THE SECOND FORM's CARD OF 'tabardlaw07.ParseStops'. -/
def parseStopsUptoCard : Claim7 := { stood := { row := parseStopsUptoRow, standIns := [], harness := (true, "f304ccaa731a175196be80b1acf0568322c46c4e85f918fc3d223a6b504e70a5"), looks := false }, kinds := [], alts := [], laidByText := true, laidKinds := [.data, .listed, .data, .pinned], laidTests := true, laidLooks := .later }
def ParseStopsUptoCardSaid : Prop := Claim7.holds Tryd.pinned (.plain (OpenSpec.upto parseStopsSpec)) parseStopsUptoCard

/-- THE SECOND FORM's CARD OF 'tabardlaw07.ParseTerms'. -/
def parseTermsUptoCard : Claim7 := { stood := { row := parseTermsUptoRow, standIns := [], harness := (true, "f304ccaa731a175196be80b1acf0568322c46c4e85f918fc3d223a6b504e70a5"), looks := false }, kinds := [], alts := [], laidByText := true, laidKinds := [.data, .listed, .data, .pinned], laidTests := true, laidLooks := .later }
def ParseTermsUptoCardSaid : Prop := Claim7.holds Tryd.pinned (.plain (OpenSpec.upto parseTermsSpec)) parseTermsUptoCard

/-- THE SECOND FORM's CARD OF 'tabardlaw07.ParseBrackets'. -/
def parseBracketsUptoCard : Claim7 := { stood := { row := parseBracketsUptoRow, standIns := [], harness := (true, "f304ccaa731a175196be80b1acf0568322c46c4e85f918fc3d223a6b504e70a5"), looks := false }, kinds := [], alts := [], laidByText := true, laidKinds := [.data, .listed, .data, .pinned], laidTests := true, laidLooks := .later }
def ParseBracketsUptoCardSaid : Prop := Claim7.holds Tryd.pinned (.plain (OpenSpec.upto parseBracketsSpec)) parseBracketsUptoCard

/-- THE SECOND FORM's CARD OF 'tabardlaw07.ParseBinds'. -/
def parseBindsUptoCard : Claim7 := { stood := { row := parseBindsUptoRow, standIns := [], harness := (true, "f304ccaa731a175196be80b1acf0568322c46c4e85f918fc3d223a6b504e70a5"), looks := false }, kinds := [], alts := [], laidByText := true, laidKinds := [.data, .listed, .data, .pinned], laidTests := true, laidLooks := .later }
def ParseBindsUptoCardSaid : Prop := Claim7.holds Tryd.pinned (.plain (OpenSpec.upto parseBindsSpec)) parseBindsUptoCard

/-- THE SECOND FORM's CARD OF 'tabardlaw08.ShowTermsBack'. -/
def showTermsBackUptoCard : Claim7 := { stood := { row := showTermsBackUptoRow, standIns := [], harness := (true, "f304ccaa731a175196be80b1acf0568322c46c4e85f918fc3d223a6b504e70a5"), looks := false }, kinds := [], alts := [], laidByText := true, laidKinds := [.data, .data, .data, .data, .listed, .data, .pinned], laidTests := true, laidLooks := .later }
def ShowTermsBackUptoCardSaid : Prop := Claim7.holds Tryd.pinned (.plain (OpenSpec.upto showTermsBackSpec)) showTermsBackUptoCard

/-- THE SECOND FORM's CARD OF 'tabardlaw08.ShowBack'. -/
def showBackUptoCard : Claim7 := { stood := { row := showBackUptoRow, standIns := [], harness := (true, "f304ccaa731a175196be80b1acf0568322c46c4e85f918fc3d223a6b504e70a5"), looks := false }, kinds := [], alts := [], laidByText := true, laidKinds := [.data, .data, .data, .data, .listed, .data, .pinned], laidTests := true, laidLooks := .later }
def ShowBackUptoCardSaid : Prop := Claim7.holds Tryd.pinned (.plain (OpenSpec.upto showBackSpec)) showBackUptoCard

/-- THE SECOND FORM's CARD OF 'tabardlaw08.ShowReads'. -/
def showReadsUptoCard : Claim7 := { stood := { row := showReadsUptoRow, standIns := [], harness := (true, "f304ccaa731a175196be80b1acf0568322c46c4e85f918fc3d223a6b504e70a5"), looks := false }, kinds := [], alts := [], laidByText := true, laidKinds := [.data, .data, .data, .data, .listed, .data, .pinned], laidTests := true, laidLooks := .later }
def ShowReadsUptoCardSaid : Prop := Claim7.holds Tryd.pinned (.plain (OpenSpec.upto showReadsSpec)) showReadsUptoCard
end Rows
end Go.Proofs.YtiflemdfnjgobaaDoor
