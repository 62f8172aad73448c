/-
  DERIVED. GIVEN WITH THE SEED: THE CARDS: each row of YtlfbdcgojbfcaaaDoorRows.lean that lists a variable, with what it lists TIED to the program's text (the seventh form; the later family's looks); each row that meets fmt, with fmt's text TOLD by the authors' own Lean function (tested against real Go, not proved from fmt's source: count such statements apart). THE CARD IS WHAT COUNTS. Prove the row's statement (the work); the ties are given (YtlfbdcgojbfcaaaDoorTie.lean); close each card by the builder's one call (the guide's Derived/Test/ToyasCard.lean, 'card_holds'). Laid BY PROGRAM, IN A SANDBOX (cutbox-door.mjs). By AI agents, Wed Nov 11 2026. No macro, syntax, notation, axiom, sorry.
-/
import Derived.Test.YtlfbdcgojbfcaaaDoorRows
import GoSem.ClaimSeven
namespace Go.Proofs.YtlfbdcgojbfcaaaDoor
namespace Rows

/-- THE TIED CARD OF 'cordwoodlaw25.RouteCuts'. -/
def routeCutsCard : Claim7 := { stood := { row := routeCutsRow, standIns := [], harness := (true, "35e129e35a9e5075ac05dfa304d6b220a2975da29499874e974d4c9a1b414137"), looks := true }, kinds := [], alts := [], laidByText := true, laidKinds := [.sentinel, .sentinel], laidTests := true, laidLooks := .later }
def RouteCutsCardSaid : Prop := Claim7.holds Tryd.pinned (.plain (OpenSpec.ofChange routeCutsSpec)) routeCutsCard

/-- THE TIED CARD OF 'cordwoodlaw25.RoutePieces'. -/
def routePiecesCard : Claim7 := { stood := { row := routePiecesRow, standIns := [], harness := (true, "35e129e35a9e5075ac05dfa304d6b220a2975da29499874e974d4c9a1b414137"), looks := true }, kinds := [], alts := [], laidByText := true, laidKinds := [.sentinel, .sentinel], laidTests := true, laidLooks := .later }
def RoutePiecesCardSaid : Prop := Claim7.holds Tryd.pinned (.plain (OpenSpec.ofChange routePiecesSpec)) routePiecesCard

/-- THE TIED CARD OF 'cordwoodlaw25.RouteLimits'. -/
def routeLimitsCard : Claim7 := { stood := { row := routeLimitsRow, standIns := [], harness := (true, "35e129e35a9e5075ac05dfa304d6b220a2975da29499874e974d4c9a1b414137"), looks := true }, kinds := [], alts := [], laidByText := true, laidKinds := [.sentinel, .sentinel], laidTests := true, laidLooks := .later }
def RouteLimitsCardSaid : Prop := Claim7.holds Tryd.pinned (.plain (OpenSpec.ofChange routeLimitsSpec)) routeLimitsCard

/-- THE TIED CARD OF 'cordwoodlaw3.RecEach'. -/
def recEachCard : Claim7 := { stood := { row := recEachRow, standIns := [], harness := (true, "35e129e35a9e5075ac05dfa304d6b220a2975da29499874e974d4c9a1b414137"), looks := true }, kinds := [], alts := [], laidByText := true, laidKinds := [.sentinel, .sentinel], laidTests := true, laidLooks := .later }
def RecEachCardSaid : Prop := Claim7.holds Tryd.pinned (.plain (OpenSpec.ofChange recEachSpec)) recEachCard

/-- THE TIED CARD OF 'cordwoodlaw3.RecBack'. -/
def recBackCard : Claim7 := { stood := { row := recBackRow, standIns := [], harness := (true, "35e129e35a9e5075ac05dfa304d6b220a2975da29499874e974d4c9a1b414137"), looks := true }, kinds := [], alts := [], laidByText := true, laidKinds := [.sentinel, .sentinel, .sentinel, .sentinel, .sentinel, .sentinel, .sentinel, .sentinel, .sentinel, .sentinel, .sentinel, .sentinel, .sentinel, .sentinel, .sentinel, .sentinel, .sentinel, .sentinel, .sentinel], laidTests := true, laidLooks := .later }
def RecBackCardSaid : Prop := Claim7.holds Tryd.pinned (.plain (OpenSpec.ofChange recBackSpec)) recBackCard

/-- THE TIED CARD OF 'cordwoodlaw3.RecBounds'. -/
def recBoundsCard : Claim7 := { stood := { row := recBoundsRow, standIns := [], harness := (true, "35e129e35a9e5075ac05dfa304d6b220a2975da29499874e974d4c9a1b414137"), looks := true }, kinds := [], alts := [], laidByText := true, laidKinds := [.sentinel, .sentinel, .sentinel, .sentinel, .sentinel, .sentinel, .sentinel, .sentinel, .sentinel, .sentinel, .sentinel, .sentinel, .sentinel, .sentinel, .sentinel, .sentinel, .sentinel, .sentinel, .sentinel], laidTests := true, laidLooks := .later }
def RecBoundsCardSaid : Prop := Claim7.holds Tryd.pinned (.plain (OpenSpec.ofChange recBoundsSpec)) recBoundsCard

/-- THE TIED CARD OF 'cordwoodlaw3.RecTimes'. -/
def recTimesCard : Claim7 := { stood := { row := recTimesRow, standIns := [], harness := (true, "35e129e35a9e5075ac05dfa304d6b220a2975da29499874e974d4c9a1b414137"), looks := true }, kinds := [], alts := [], laidByText := true, laidKinds := [.sentinel, .sentinel, .sentinel, .sentinel, .sentinel], laidTests := true, laidLooks := .later }
def RecTimesCardSaid : Prop := Claim7.holds Tryd.pinned (.plain (OpenSpec.ofChange recTimesSpec)) recTimesCard

/-- THE TIED CARD OF 'cordwoodlaw3.RecReads'. -/
def recReadsCard : Claim7 := { stood := { row := recReadsRow, standIns := [], harness := (true, "35e129e35a9e5075ac05dfa304d6b220a2975da29499874e974d4c9a1b414137"), looks := true }, kinds := [], alts := [], laidByText := true, laidKinds := [.sentinel, .sentinel, .sentinel, .sentinel, .sentinel, .sentinel, .sentinel, .sentinel, .sentinel, .sentinel, .sentinel, .sentinel, .sentinel, .sentinel, .sentinel, .sentinel, .sentinel, .sentinel, .sentinel], laidTests := true, laidLooks := .later }
def RecReadsCardSaid : Prop := Claim7.holds Tryd.pinned (.plain (OpenSpec.ofChange recReadsSpec)) recReadsCard

/-- THE TIED CARD OF 'cordwoodlaw3.RecSpoilt'. -/
def recSpoiltCard : Claim7 := { stood := { row := recSpoiltRow, standIns := [], harness := (true, "35e129e35a9e5075ac05dfa304d6b220a2975da29499874e974d4c9a1b414137"), looks := true }, kinds := [], alts := [], laidByText := true, laidKinds := [.sentinel, .sentinel, .sentinel, .sentinel, .sentinel, .sentinel, .sentinel, .sentinel, .sentinel, .sentinel, .sentinel, .sentinel, .sentinel, .sentinel, .sentinel, .sentinel, .sentinel, .sentinel, .sentinel], laidTests := true, laidLooks := .later }
def RecSpoiltCardSaid : Prop := Claim7.holds Tryd.pinned (.plain (OpenSpec.ofChange recSpoiltSpec)) recSpoiltCard

/-- THE TIED CARD OF 'cordwoodlaw3.RecRows'. -/
def recRowsCard : Claim7 := { stood := { row := recRowsRow, standIns := [], harness := (true, "35e129e35a9e5075ac05dfa304d6b220a2975da29499874e974d4c9a1b414137"), looks := true }, kinds := [], alts := [], laidByText := true, laidKinds := [.sentinel, .sentinel, .sentinel, .sentinel, .sentinel, .sentinel, .sentinel, .sentinel, .sentinel, .sentinel, .sentinel, .sentinel, .sentinel, .sentinel, .sentinel, .sentinel, .sentinel, .sentinel, .sentinel], laidTests := true, laidLooks := .later }
def RecRowsCardSaid : Prop := Claim7.holds Tryd.pinned (.plain (OpenSpec.ofChange recRowsSpec)) recRowsCard

/-- THE SECOND FORM's CARD OF 'cordwoodlaw25.RouteCuts'. -/
def routeCutsUptoCard : Claim7 := { stood := { row := routeCutsUptoRow, standIns := [], harness := (true, "35e129e35a9e5075ac05dfa304d6b220a2975da29499874e974d4c9a1b414137"), looks := true }, kinds := [], alts := [], laidByText := true, laidKinds := [.sentinel, .sentinel], laidTests := true, laidLooks := .later }
def RouteCutsUptoCardSaid : Prop := Claim7.holds Tryd.pinned (.plain (OpenSpec.upto routeCutsSpec)) routeCutsUptoCard

/-- THE SECOND FORM's CARD OF 'cordwoodlaw25.RoutePieces'. -/
def routePiecesUptoCard : Claim7 := { stood := { row := routePiecesUptoRow, standIns := [], harness := (true, "35e129e35a9e5075ac05dfa304d6b220a2975da29499874e974d4c9a1b414137"), looks := true }, kinds := [], alts := [], laidByText := true, laidKinds := [.sentinel, .sentinel], laidTests := true, laidLooks := .later }
def RoutePiecesUptoCardSaid : Prop := Claim7.holds Tryd.pinned (.plain (OpenSpec.upto routePiecesSpec)) routePiecesUptoCard

/-- THE SECOND FORM's CARD OF 'cordwoodlaw25.RouteLimits'. -/
def routeLimitsUptoCard : Claim7 := { stood := { row := routeLimitsUptoRow, standIns := [], harness := (true, "35e129e35a9e5075ac05dfa304d6b220a2975da29499874e974d4c9a1b414137"), looks := true }, kinds := [], alts := [], laidByText := true, laidKinds := [.sentinel, .sentinel], laidTests := true, laidLooks := .later }
def RouteLimitsUptoCardSaid : Prop := Claim7.holds Tryd.pinned (.plain (OpenSpec.upto routeLimitsSpec)) routeLimitsUptoCard

/-- THE SECOND FORM's CARD OF 'cordwoodlaw3.RecEach'. -/
def recEachUptoCard : Claim7 := { stood := { row := recEachUptoRow, standIns := [], harness := (true, "35e129e35a9e5075ac05dfa304d6b220a2975da29499874e974d4c9a1b414137"), looks := true }, kinds := [], alts := [], laidByText := true, laidKinds := [.sentinel, .sentinel], laidTests := true, laidLooks := .later }
def RecEachUptoCardSaid : Prop := Claim7.holds Tryd.pinned (.plain (OpenSpec.upto recEachSpec)) recEachUptoCard

/-- THE SECOND FORM's CARD OF 'cordwoodlaw3.RecBack'. -/
def recBackUptoCard : Claim7 := { stood := { row := recBackUptoRow, standIns := [], harness := (true, "35e129e35a9e5075ac05dfa304d6b220a2975da29499874e974d4c9a1b414137"), looks := true }, kinds := [], alts := [], laidByText := true, laidKinds := [.sentinel, .sentinel, .sentinel, .sentinel, .sentinel, .sentinel, .sentinel, .sentinel, .sentinel, .sentinel, .sentinel, .sentinel, .sentinel, .sentinel, .sentinel, .sentinel, .sentinel, .sentinel, .sentinel], laidTests := true, laidLooks := .later }
def RecBackUptoCardSaid : Prop := Claim7.holds Tryd.pinned (.plain (OpenSpec.upto recBackSpec)) recBackUptoCard

/-- THE SECOND FORM's CARD OF 'cordwoodlaw3.RecBounds'. -/
def recBoundsUptoCard : Claim7 := { stood := { row := recBoundsUptoRow, standIns := [], harness := (true, "35e129e35a9e5075ac05dfa304d6b220a2975da29499874e974d4c9a1b414137"), looks := true }, kinds := [], alts := [], laidByText := true, laidKinds := [.sentinel, .sentinel, .sentinel, .sentinel, .sentinel, .sentinel, .sentinel, .sentinel, .sentinel, .sentinel, .sentinel, .sentinel, .sentinel, .sentinel, .sentinel, .sentinel, .sentinel, .sentinel, .sentinel], laidTests := true, laidLooks := .later }
def RecBoundsUptoCardSaid : Prop := Claim7.holds Tryd.pinned (.plain (OpenSpec.upto recBoundsSpec)) recBoundsUptoCard

/-- THE SECOND FORM's CARD OF 'cordwoodlaw3.RecTimes'. -/
def recTimesUptoCard : Claim7 := { stood := { row := recTimesUptoRow, standIns := [], harness := (true, "35e129e35a9e5075ac05dfa304d6b220a2975da29499874e974d4c9a1b414137"), looks := true }, kinds := [], alts := [], laidByText := true, laidKinds := [.sentinel, .sentinel, .sentinel, .sentinel, .sentinel], laidTests := true, laidLooks := .later }
def RecTimesUptoCardSaid : Prop := Claim7.holds Tryd.pinned (.plain (OpenSpec.upto recTimesSpec)) recTimesUptoCard

/-- THE SECOND FORM's CARD OF 'cordwoodlaw3.RecReads'. -/
def recReadsUptoCard : Claim7 := { stood := { row := recReadsUptoRow, standIns := [], harness := (true, "35e129e35a9e5075ac05dfa304d6b220a2975da29499874e974d4c9a1b414137"), looks := true }, kinds := [], alts := [], laidByText := true, laidKinds := [.sentinel, .sentinel, .sentinel, .sentinel, .sentinel, .sentinel, .sentinel, .sentinel, .sentinel, .sentinel, .sentinel, .sentinel, .sentinel, .sentinel, .sentinel, .sentinel, .sentinel, .sentinel, .sentinel], laidTests := true, laidLooks := .later }
def RecReadsUptoCardSaid : Prop := Claim7.holds Tryd.pinned (.plain (OpenSpec.upto recReadsSpec)) recReadsUptoCard

/-- THE SECOND FORM's CARD OF 'cordwoodlaw3.RecSpoilt'. -/
def recSpoiltUptoCard : Claim7 := { stood := { row := recSpoiltUptoRow, standIns := [], harness := (true, "35e129e35a9e5075ac05dfa304d6b220a2975da29499874e974d4c9a1b414137"), looks := true }, kinds := [], alts := [], laidByText := true, laidKinds := [.sentinel, .sentinel, .sentinel, .sentinel, .sentinel, .sentinel, .sentinel, .sentinel, .sentinel, .sentinel, .sentinel, .sentinel, .sentinel, .sentinel, .sentinel, .sentinel, .sentinel, .sentinel, .sentinel], laidTests := true, laidLooks := .later }
def RecSpoiltUptoCardSaid : Prop := Claim7.holds Tryd.pinned (.plain (OpenSpec.upto recSpoiltSpec)) recSpoiltUptoCard

/-- THE SECOND FORM's CARD OF 'cordwoodlaw3.RecRows'. -/
def recRowsUptoCard : Claim7 := { stood := { row := recRowsUptoRow, standIns := [], harness := (true, "35e129e35a9e5075ac05dfa304d6b220a2975da29499874e974d4c9a1b414137"), looks := true }, kinds := [], alts := [], laidByText := true, laidKinds := [.sentinel, .sentinel, .sentinel, .sentinel, .sentinel, .sentinel, .sentinel, .sentinel, .sentinel, .sentinel, .sentinel, .sentinel, .sentinel, .sentinel, .sentinel, .sentinel, .sentinel, .sentinel, .sentinel], laidTests := true, laidLooks := .later }
def RecRowsUptoCardSaid : Prop := Claim7.holds Tryd.pinned (.plain (OpenSpec.upto recRowsSpec)) recRowsUptoCard
end Rows
end Go.Proofs.YtlfbdcgojbfcaaaDoor
