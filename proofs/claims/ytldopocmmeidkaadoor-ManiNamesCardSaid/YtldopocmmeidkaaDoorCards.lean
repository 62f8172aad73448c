/-
  DERIVED. GIVEN WITH THE SEED: THE CARDS: each row of YtldopocmmeidkaaDoorRows.lean that lists a variable, with what it lists TIED to the program's text (the seventh form; the later family's looks); each row that meets fmt, with fmt's text TOLD by the authors' own Lean function (tested against real Go, not proved from fmt's source: count such statements apart). THE CARD IS WHAT COUNTS. Prove the row's statement (the work); the ties are given (YtldopocmmeidkaaDoorTie.lean); close each card by the builder's one call (the guide's Derived/Test/ToyasCard.lean, 'card_holds'). Laid BY PROGRAM, IN A SANDBOX (cutbox-door.mjs). By AI agents, Wed Nov 11 2026. No macro, syntax, notation, axiom, sorry.
-/
import Derived.Test.YtldopocmmeidkaaDoorRows
import GoSem.ClaimSeven
namespace Go.Proofs.YtldopocmmeidkaaDoor
namespace Rows

/-- THE TIED CARD OF 'cordwoodlaw15.EntryCounts'. -/
def entryCountsCard : Claim7 := { stood := { row := entryCountsRow, standIns := [], harness := (true, "620a589c2f6d3161ded37ea9eb1231d87c81ae72981e7f2e90a12bad9b19292a"), looks := true }, kinds := [], alts := [], laidByText := true, laidKinds := [.sentinel, .sentinel, .sentinel, .sentinel, .sentinel, .sentinel, .sentinel, .sentinel, .sentinel, .sentinel, .sentinel, .sentinel, .sentinel, .sentinel, .sentinel, .sentinel, .sentinel, .sentinel, .sentinel], laidTests := true, laidLooks := .later }
def EntryCountsCardSaid : Prop := Claim7.holds Tryd.pinned (.plain (OpenSpec.ofChange entryCountsSpec)) entryCountsCard

/-- THE TIED CARD OF 'cordwoodlaw14.ManiTurned'. -/
def maniTurnedCard : Claim7 := { stood := { row := maniTurnedRow, standIns := [], harness := (true, "620a589c2f6d3161ded37ea9eb1231d87c81ae72981e7f2e90a12bad9b19292a"), looks := true }, kinds := [], alts := [], laidByText := true, laidKinds := [.sentinel, .sentinel, .sentinel, .sentinel, .sentinel, .sentinel, .sentinel, .sentinel, .sentinel, .sentinel, .sentinel, .sentinel, .sentinel, .sentinel, .sentinel, .sentinel, .sentinel, .sentinel, .sentinel], laidTests := true, laidLooks := .later }
def ManiTurnedCardSaid : Prop := Claim7.holds Tryd.pinned (.plain (OpenSpec.ofChange maniTurnedSpec)) maniTurnedCard

/-- THE TIED CARD OF 'cordwoodlaw15.EntrySpoilt'. -/
def entrySpoiltCard : Claim7 := { stood := { row := entrySpoiltRow, standIns := [], harness := (true, "620a589c2f6d3161ded37ea9eb1231d87c81ae72981e7f2e90a12bad9b19292a"), looks := true }, kinds := [], alts := [], laidByText := true, laidKinds := [.sentinel, .sentinel, .sentinel, .sentinel, .sentinel, .sentinel, .sentinel, .sentinel, .sentinel, .sentinel, .sentinel, .sentinel, .sentinel, .sentinel, .sentinel, .sentinel, .sentinel, .sentinel, .sentinel], laidTests := true, laidLooks := .later }
def EntrySpoiltCardSaid : Prop := Claim7.holds Tryd.pinned (.plain (OpenSpec.ofChange entrySpoiltSpec)) entrySpoiltCard

/-- THE TIED CARD OF 'cordwoodlaw15.EntrySays'. -/
def entrySaysCard : Claim7 := { stood := { row := entrySaysRow, standIns := [], harness := (true, "620a589c2f6d3161ded37ea9eb1231d87c81ae72981e7f2e90a12bad9b19292a"), looks := true }, kinds := [], alts := [], laidByText := true, laidKinds := [.sentinel, .sentinel, .sentinel, .sentinel, .sentinel, .sentinel, .sentinel, .sentinel, .sentinel, .sentinel, .sentinel, .sentinel, .sentinel, .sentinel, .sentinel, .sentinel, .sentinel, .sentinel, .sentinel], laidTests := true, laidLooks := .later }
def EntrySaysCardSaid : Prop := Claim7.holds Tryd.pinned (.plain (OpenSpec.ofChange entrySaysSpec)) entrySaysCard

/-- THE TIED CARD OF 'cordwoodlaw15.EntryRows'. -/
def entryRowsCard : Claim7 := { stood := { row := entryRowsRow, standIns := [], harness := (true, "620a589c2f6d3161ded37ea9eb1231d87c81ae72981e7f2e90a12bad9b19292a"), looks := true }, kinds := [], alts := [], laidByText := true, laidKinds := [.sentinel, .sentinel, .sentinel, .sentinel, .sentinel, .sentinel, .sentinel], laidTests := true, laidLooks := .later }
def EntryRowsCardSaid : Prop := Claim7.holds Tryd.pinned (.plain (OpenSpec.ofChange entryRowsSpec)) entryRowsCard

/-- THE TIED CARD OF 'cordwoodlaw14.ManiNames'. -/
def maniNamesCard : Claim7 := { stood := { row := maniNamesRow, standIns := [], harness := (true, "620a589c2f6d3161ded37ea9eb1231d87c81ae72981e7f2e90a12bad9b19292a"), looks := true }, kinds := [], alts := [], laidByText := true, laidKinds := [.data, .data, .data, .sentinel, .sentinel, .sentinel, .sentinel, .sentinel, .sentinel, .sentinel, .sentinel, .sentinel, .sentinel, .sentinel, .sentinel, .sentinel, .sentinel, .sentinel, .sentinel, .sentinel, .sentinel, .sentinel], laidTests := true, laidLooks := .later }
def ManiNamesCardSaid : Prop := Claim7.holds Tryd.pinned (.plain (OpenSpec.ofChange maniNamesSpec)) maniNamesCard

/-- THE SECOND FORM's CARD OF 'cordwoodlaw15.EntryCounts'. -/
def entryCountsUptoCard : Claim7 := { stood := { row := entryCountsUptoRow, standIns := [], harness := (true, "620a589c2f6d3161ded37ea9eb1231d87c81ae72981e7f2e90a12bad9b19292a"), looks := true }, kinds := [], alts := [], laidByText := true, laidKinds := [.sentinel, .sentinel, .sentinel, .sentinel, .sentinel, .sentinel, .sentinel, .sentinel, .sentinel, .sentinel, .sentinel, .sentinel, .sentinel, .sentinel, .sentinel, .sentinel, .sentinel, .sentinel, .sentinel], laidTests := true, laidLooks := .later }
def EntryCountsUptoCardSaid : Prop := Claim7.holds Tryd.pinned (.plain (OpenSpec.upto entryCountsSpec)) entryCountsUptoCard

/-- THE SECOND FORM's CARD OF 'cordwoodlaw14.ManiTurned'. -/
def maniTurnedUptoCard : Claim7 := { stood := { row := maniTurnedUptoRow, standIns := [], harness := (true, "620a589c2f6d3161ded37ea9eb1231d87c81ae72981e7f2e90a12bad9b19292a"), looks := true }, kinds := [], alts := [], laidByText := true, laidKinds := [.sentinel, .sentinel, .sentinel, .sentinel, .sentinel, .sentinel, .sentinel, .sentinel, .sentinel, .sentinel, .sentinel, .sentinel, .sentinel, .sentinel, .sentinel, .sentinel, .sentinel, .sentinel, .sentinel], laidTests := true, laidLooks := .later }
def ManiTurnedUptoCardSaid : Prop := Claim7.holds Tryd.pinned (.plain (OpenSpec.upto maniTurnedSpec)) maniTurnedUptoCard

/-- THE SECOND FORM's CARD OF 'cordwoodlaw15.EntrySpoilt'. -/
def entrySpoiltUptoCard : Claim7 := { stood := { row := entrySpoiltUptoRow, standIns := [], harness := (true, "620a589c2f6d3161ded37ea9eb1231d87c81ae72981e7f2e90a12bad9b19292a"), looks := true }, kinds := [], alts := [], laidByText := true, laidKinds := [.sentinel, .sentinel, .sentinel, .sentinel, .sentinel, .sentinel, .sentinel, .sentinel, .sentinel, .sentinel, .sentinel, .sentinel, .sentinel, .sentinel, .sentinel, .sentinel, .sentinel, .sentinel, .sentinel], laidTests := true, laidLooks := .later }
def EntrySpoiltUptoCardSaid : Prop := Claim7.holds Tryd.pinned (.plain (OpenSpec.upto entrySpoiltSpec)) entrySpoiltUptoCard

/-- THE SECOND FORM's CARD OF 'cordwoodlaw15.EntrySays'. -/
def entrySaysUptoCard : Claim7 := { stood := { row := entrySaysUptoRow, standIns := [], harness := (true, "620a589c2f6d3161ded37ea9eb1231d87c81ae72981e7f2e90a12bad9b19292a"), looks := true }, kinds := [], alts := [], laidByText := true, laidKinds := [.sentinel, .sentinel, .sentinel, .sentinel, .sentinel, .sentinel, .sentinel, .sentinel, .sentinel, .sentinel, .sentinel, .sentinel, .sentinel, .sentinel, .sentinel, .sentinel, .sentinel, .sentinel, .sentinel], laidTests := true, laidLooks := .later }
def EntrySaysUptoCardSaid : Prop := Claim7.holds Tryd.pinned (.plain (OpenSpec.upto entrySaysSpec)) entrySaysUptoCard

/-- THE SECOND FORM's CARD OF 'cordwoodlaw15.EntryRows'. -/
def entryRowsUptoCard : Claim7 := { stood := { row := entryRowsUptoRow, standIns := [], harness := (true, "620a589c2f6d3161ded37ea9eb1231d87c81ae72981e7f2e90a12bad9b19292a"), looks := true }, kinds := [], alts := [], laidByText := true, laidKinds := [.sentinel, .sentinel, .sentinel, .sentinel, .sentinel, .sentinel, .sentinel], laidTests := true, laidLooks := .later }
def EntryRowsUptoCardSaid : Prop := Claim7.holds Tryd.pinned (.plain (OpenSpec.upto entryRowsSpec)) entryRowsUptoCard

/-- THE SECOND FORM's CARD OF 'cordwoodlaw14.ManiNames'. -/
def maniNamesUptoCard : Claim7 := { stood := { row := maniNamesUptoRow, standIns := [], harness := (true, "620a589c2f6d3161ded37ea9eb1231d87c81ae72981e7f2e90a12bad9b19292a"), looks := true }, kinds := [], alts := [], laidByText := true, laidKinds := [.data, .data, .data, .sentinel, .sentinel, .sentinel, .sentinel, .sentinel, .sentinel, .sentinel, .sentinel, .sentinel, .sentinel, .sentinel, .sentinel, .sentinel, .sentinel, .sentinel, .sentinel, .sentinel, .sentinel, .sentinel], laidTests := true, laidLooks := .later }
def ManiNamesUptoCardSaid : Prop := Claim7.holds Tryd.pinned (.plain (OpenSpec.upto maniNamesSpec)) maniNamesUptoCard
end Rows
end Go.Proofs.YtldopocmmeidkaaDoor
