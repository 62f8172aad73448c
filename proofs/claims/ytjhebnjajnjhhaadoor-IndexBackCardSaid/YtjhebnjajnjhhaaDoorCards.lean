/-
  DERIVED. GIVEN WITH THE SEED: THE CARDS: each row of YtjhebnjajnjhhaaDoorRows.lean that lists a variable, with what it lists TIED to the program's text (the seventh form; the later family's looks); each row that meets fmt, with fmt's text TOLD by the authors' own Lean function (tested against real Go, not proved from fmt's source: count such statements apart). THE CARD IS WHAT COUNTS. Prove the row's statement (the work); the ties are given (YtjhebnjajnjhhaaDoorTie.lean); close each card by the builder's one call (the guide's Derived/Test/ToyasCard.lean, 'card_holds'). Laid BY PROGRAM, IN A SANDBOX (cutbox-door.mjs). By AI agents, Wed Nov 11 2026. No macro, syntax, notation, axiom, sorry.
-/
import Derived.Test.YtjhebnjajnjhhaaDoorRows
import GoSem.ClaimSeven
namespace Go.Proofs.YtjhebnjajnjhhaaDoor
namespace Rows

/-- THE TIED CARD OF 'cordwoodlaw6.IndexTimes'. -/
def indexTimesCard : Claim7 := { stood := { row := indexTimesRow, standIns := [], harness := (true, "722cee6a60348f39d38f27abefa37fa4fdcbb3c1ea04ffb9322be7207eed8a8a"), looks := true }, kinds := [], alts := [], laidByText := true, laidKinds := [.sentinel, .sentinel, .sentinel, .sentinel, .sentinel, .sentinel, .sentinel, .sentinel, .sentinel, .sentinel, .sentinel, .sentinel, .sentinel, .sentinel, .sentinel, .sentinel, .sentinel, .sentinel, .sentinel], laidTests := true, laidLooks := .later }
def IndexTimesCardSaid : Prop := Claim7.holds Tryd.pinned (.plain (OpenSpec.ofChange indexTimesSpec)) indexTimesCard

/-- THE TIED CARD OF 'cordwoodlaw6.IndexFinds'. -/
def indexFindsCard : Claim7 := { stood := { row := indexFindsRow, standIns := [], harness := (true, "722cee6a60348f39d38f27abefa37fa4fdcbb3c1ea04ffb9322be7207eed8a8a"), looks := true }, kinds := [], alts := [], laidByText := true, laidKinds := [.sentinel], laidTests := true, laidLooks := .later }
def IndexFindsCardSaid : Prop := Claim7.holds Tryd.pinned (.plain (OpenSpec.ofChange indexFindsSpec)) indexFindsCard

/-- THE TIED CARD OF 'cordwoodlaw9.EpochEnds'. -/
def epochEndsCard : Claim7 := { stood := { row := epochEndsRow, standIns := [], harness := (true, "722cee6a60348f39d38f27abefa37fa4fdcbb3c1ea04ffb9322be7207eed8a8a"), looks := true }, kinds := [], alts := [], laidByText := true, laidKinds := [.sentinel, .sentinel, .sentinel], laidTests := true, laidLooks := .later }
def EpochEndsCardSaid : Prop := Claim7.holds Tryd.pinned (.plain (OpenSpec.ofChange epochEndsSpec)) epochEndsCard

/-- THE TIED CARD OF 'cordwoodlaw6.IndexCuts'. -/
def indexCutsCard : Claim7 := { stood := { row := indexCutsRow, standIns := [], harness := (true, "722cee6a60348f39d38f27abefa37fa4fdcbb3c1ea04ffb9322be7207eed8a8a"), looks := true }, kinds := [], alts := [], laidByText := true, laidKinds := [.sentinel], laidTests := true, laidLooks := .later }
def IndexCutsCardSaid : Prop := Claim7.holds Tryd.pinned (.plain (OpenSpec.ofChange indexCutsSpec)) indexCutsCard

/-- THE TIED CARD OF 'cordwoodlaw9.EpochCuts'. -/
def epochCutsCard : Claim7 := { stood := { row := epochCutsRow, standIns := [], harness := (true, "722cee6a60348f39d38f27abefa37fa4fdcbb3c1ea04ffb9322be7207eed8a8a"), looks := true }, kinds := [], alts := [], laidByText := true, laidKinds := [.sentinel, .sentinel, .sentinel], laidTests := true, laidLooks := .later }
def EpochCutsCardSaid : Prop := Claim7.holds Tryd.pinned (.plain (OpenSpec.ofChange epochCutsSpec)) epochCutsCard

/-- THE TIED CARD OF 'cordwoodlaw9.EpochLeads'. -/
def epochLeadsCard : Claim7 := { stood := { row := epochLeadsRow, standIns := [], harness := (true, "722cee6a60348f39d38f27abefa37fa4fdcbb3c1ea04ffb9322be7207eed8a8a"), looks := true }, kinds := [], alts := [], laidByText := true, laidKinds := [.sentinel, .sentinel, .sentinel, .sentinel, .sentinel, .sentinel, .sentinel, .sentinel, .sentinel, .sentinel, .sentinel, .sentinel, .sentinel, .sentinel, .sentinel, .sentinel, .sentinel, .sentinel, .sentinel], laidTests := true, laidLooks := .later }
def EpochLeadsCardSaid : Prop := Claim7.holds Tryd.pinned (.plain (OpenSpec.ofChange epochLeadsSpec)) epochLeadsCard

/-- THE TIED CARD OF 'cordwoodlaw9.EpochBytes'. -/
def epochBytesCard : Claim7 := { stood := { row := epochBytesRow, standIns := [], harness := (true, "722cee6a60348f39d38f27abefa37fa4fdcbb3c1ea04ffb9322be7207eed8a8a"), looks := true }, kinds := [], alts := [], laidByText := true, laidKinds := [.sentinel, .sentinel, .sentinel, .sentinel, .sentinel, .sentinel, .sentinel, .sentinel, .sentinel, .sentinel, .sentinel, .sentinel, .sentinel, .sentinel, .sentinel, .sentinel, .sentinel, .sentinel, .sentinel], laidTests := true, laidLooks := .later }
def EpochBytesCardSaid : Prop := Claim7.holds Tryd.pinned (.plain (OpenSpec.ofChange epochBytesSpec)) epochBytesCard

/-- THE TIED CARD OF 'cordwoodlaw9.EpochSpans'. -/
def epochSpansCard : Claim7 := { stood := { row := epochSpansRow, standIns := [], harness := (true, "722cee6a60348f39d38f27abefa37fa4fdcbb3c1ea04ffb9322be7207eed8a8a"), looks := true }, kinds := [], alts := [], laidByText := true, laidKinds := [.sentinel, .sentinel, .sentinel, .sentinel], laidTests := true, laidLooks := .later }
def EpochSpansCardSaid : Prop := Claim7.holds Tryd.pinned (.plain (OpenSpec.ofChange epochSpansSpec)) epochSpansCard

/-- THE TIED CARD OF 'cordwoodlaw9.EpochPlays'. -/
def epochPlaysCard : Claim7 := { stood := { row := epochPlaysRow, standIns := [], harness := (true, "722cee6a60348f39d38f27abefa37fa4fdcbb3c1ea04ffb9322be7207eed8a8a"), looks := true }, kinds := [], alts := [], laidByText := true, laidKinds := [.sentinel, .sentinel, .sentinel, .sentinel, .sentinel, .sentinel, .sentinel, .sentinel, .sentinel, .sentinel, .sentinel, .sentinel, .sentinel, .sentinel, .sentinel, .sentinel, .sentinel, .sentinel, .sentinel], laidTests := true, laidLooks := .later }
def EpochPlaysCardSaid : Prop := Claim7.holds Tryd.pinned (.plain (OpenSpec.ofChange epochPlaysSpec)) epochPlaysCard

/-- THE TIED CARD OF 'cordwoodlaw9.EpochMany'. -/
def epochManyCard : Claim7 := { stood := { row := epochManyRow, standIns := [], harness := (true, "722cee6a60348f39d38f27abefa37fa4fdcbb3c1ea04ffb9322be7207eed8a8a"), looks := true }, kinds := [], alts := [], laidByText := true, laidKinds := [.sentinel, .sentinel, .sentinel, .sentinel, .sentinel], laidTests := true, laidLooks := .later }
def EpochManyCardSaid : Prop := Claim7.holds Tryd.pinned (.plain (OpenSpec.ofChange epochManySpec)) epochManyCard

/-- THE TIED CARD OF 'cordwoodlaw6.IndexReads'. -/
def indexReadsCard : Claim7 := { stood := { row := indexReadsRow, standIns := [], harness := (true, "722cee6a60348f39d38f27abefa37fa4fdcbb3c1ea04ffb9322be7207eed8a8a"), looks := true }, kinds := [], alts := [], laidByText := true, laidKinds := [.sentinel, .sentinel, .sentinel, .sentinel, .sentinel, .sentinel, .sentinel, .sentinel, .sentinel, .sentinel, .sentinel, .sentinel, .sentinel, .sentinel, .sentinel, .sentinel, .sentinel, .sentinel, .sentinel], laidTests := true, laidLooks := .later }
def IndexReadsCardSaid : Prop := Claim7.holds Tryd.pinned (.plain (OpenSpec.ofChange indexReadsSpec)) indexReadsCard

/-- THE TIED CARD OF 'cordwoodlaw6.IndexSpoilt'. -/
def indexSpoiltCard : Claim7 := { stood := { row := indexSpoiltRow, standIns := [], harness := (true, "722cee6a60348f39d38f27abefa37fa4fdcbb3c1ea04ffb9322be7207eed8a8a"), looks := true }, kinds := [], alts := [], laidByText := true, laidKinds := [.sentinel, .sentinel, .sentinel, .sentinel, .sentinel, .sentinel, .sentinel, .sentinel, .sentinel, .sentinel, .sentinel, .sentinel, .sentinel, .sentinel, .sentinel, .sentinel, .sentinel, .sentinel, .sentinel], laidTests := true, laidLooks := .later }
def IndexSpoiltCardSaid : Prop := Claim7.holds Tryd.pinned (.plain (OpenSpec.ofChange indexSpoiltSpec)) indexSpoiltCard

/-- THE TIED CARD OF 'cordwoodlaw6.IndexBack'. -/
def indexBackCard : Claim7 := { stood := { row := indexBackRow, standIns := [], harness := (true, "722cee6a60348f39d38f27abefa37fa4fdcbb3c1ea04ffb9322be7207eed8a8a"), looks := true }, kinds := [], alts := [], laidByText := true, laidKinds := [.sentinel, .sentinel, .sentinel, .sentinel], laidTests := true, laidLooks := .later }
def IndexBackCardSaid : Prop := Claim7.holds Tryd.pinned (.plain (OpenSpec.ofChange indexBackSpec)) indexBackCard

/-- THE SECOND FORM's CARD OF 'cordwoodlaw6.IndexTimes'. -/
def indexTimesUptoCard : Claim7 := { stood := { row := indexTimesUptoRow, standIns := [], harness := (true, "722cee6a60348f39d38f27abefa37fa4fdcbb3c1ea04ffb9322be7207eed8a8a"), looks := true }, kinds := [], alts := [], laidByText := true, laidKinds := [.sentinel, .sentinel, .sentinel, .sentinel, .sentinel, .sentinel, .sentinel, .sentinel, .sentinel, .sentinel, .sentinel, .sentinel, .sentinel, .sentinel, .sentinel, .sentinel, .sentinel, .sentinel, .sentinel], laidTests := true, laidLooks := .later }
def IndexTimesUptoCardSaid : Prop := Claim7.holds Tryd.pinned (.plain (OpenSpec.upto indexTimesSpec)) indexTimesUptoCard

/-- THE SECOND FORM's CARD OF 'cordwoodlaw6.IndexFinds'. -/
def indexFindsUptoCard : Claim7 := { stood := { row := indexFindsUptoRow, standIns := [], harness := (true, "722cee6a60348f39d38f27abefa37fa4fdcbb3c1ea04ffb9322be7207eed8a8a"), looks := true }, kinds := [], alts := [], laidByText := true, laidKinds := [.sentinel], laidTests := true, laidLooks := .later }
def IndexFindsUptoCardSaid : Prop := Claim7.holds Tryd.pinned (.plain (OpenSpec.upto indexFindsSpec)) indexFindsUptoCard

/-- THE SECOND FORM's CARD OF 'cordwoodlaw9.EpochEnds'. -/
def epochEndsUptoCard : Claim7 := { stood := { row := epochEndsUptoRow, standIns := [], harness := (true, "722cee6a60348f39d38f27abefa37fa4fdcbb3c1ea04ffb9322be7207eed8a8a"), looks := true }, kinds := [], alts := [], laidByText := true, laidKinds := [.sentinel, .sentinel, .sentinel], laidTests := true, laidLooks := .later }
def EpochEndsUptoCardSaid : Prop := Claim7.holds Tryd.pinned (.plain (OpenSpec.upto epochEndsSpec)) epochEndsUptoCard

/-- THE SECOND FORM's CARD OF 'cordwoodlaw6.IndexCuts'. -/
def indexCutsUptoCard : Claim7 := { stood := { row := indexCutsUptoRow, standIns := [], harness := (true, "722cee6a60348f39d38f27abefa37fa4fdcbb3c1ea04ffb9322be7207eed8a8a"), looks := true }, kinds := [], alts := [], laidByText := true, laidKinds := [.sentinel], laidTests := true, laidLooks := .later }
def IndexCutsUptoCardSaid : Prop := Claim7.holds Tryd.pinned (.plain (OpenSpec.upto indexCutsSpec)) indexCutsUptoCard

/-- THE SECOND FORM's CARD OF 'cordwoodlaw9.EpochCuts'. -/
def epochCutsUptoCard : Claim7 := { stood := { row := epochCutsUptoRow, standIns := [], harness := (true, "722cee6a60348f39d38f27abefa37fa4fdcbb3c1ea04ffb9322be7207eed8a8a"), looks := true }, kinds := [], alts := [], laidByText := true, laidKinds := [.sentinel, .sentinel, .sentinel], laidTests := true, laidLooks := .later }
def EpochCutsUptoCardSaid : Prop := Claim7.holds Tryd.pinned (.plain (OpenSpec.upto epochCutsSpec)) epochCutsUptoCard

/-- THE SECOND FORM's CARD OF 'cordwoodlaw9.EpochLeads'. -/
def epochLeadsUptoCard : Claim7 := { stood := { row := epochLeadsUptoRow, standIns := [], harness := (true, "722cee6a60348f39d38f27abefa37fa4fdcbb3c1ea04ffb9322be7207eed8a8a"), looks := true }, kinds := [], alts := [], laidByText := true, laidKinds := [.sentinel, .sentinel, .sentinel, .sentinel, .sentinel, .sentinel, .sentinel, .sentinel, .sentinel, .sentinel, .sentinel, .sentinel, .sentinel, .sentinel, .sentinel, .sentinel, .sentinel, .sentinel, .sentinel], laidTests := true, laidLooks := .later }
def EpochLeadsUptoCardSaid : Prop := Claim7.holds Tryd.pinned (.plain (OpenSpec.upto epochLeadsSpec)) epochLeadsUptoCard

/-- THE SECOND FORM's CARD OF 'cordwoodlaw9.EpochBytes'. -/
def epochBytesUptoCard : Claim7 := { stood := { row := epochBytesUptoRow, standIns := [], harness := (true, "722cee6a60348f39d38f27abefa37fa4fdcbb3c1ea04ffb9322be7207eed8a8a"), looks := true }, kinds := [], alts := [], laidByText := true, laidKinds := [.sentinel, .sentinel, .sentinel, .sentinel, .sentinel, .sentinel, .sentinel, .sentinel, .sentinel, .sentinel, .sentinel, .sentinel, .sentinel, .sentinel, .sentinel, .sentinel, .sentinel, .sentinel, .sentinel], laidTests := true, laidLooks := .later }
def EpochBytesUptoCardSaid : Prop := Claim7.holds Tryd.pinned (.plain (OpenSpec.upto epochBytesSpec)) epochBytesUptoCard

/-- THE SECOND FORM's CARD OF 'cordwoodlaw9.EpochSpans'. -/
def epochSpansUptoCard : Claim7 := { stood := { row := epochSpansUptoRow, standIns := [], harness := (true, "722cee6a60348f39d38f27abefa37fa4fdcbb3c1ea04ffb9322be7207eed8a8a"), looks := true }, kinds := [], alts := [], laidByText := true, laidKinds := [.sentinel, .sentinel, .sentinel, .sentinel], laidTests := true, laidLooks := .later }
def EpochSpansUptoCardSaid : Prop := Claim7.holds Tryd.pinned (.plain (OpenSpec.upto epochSpansSpec)) epochSpansUptoCard

/-- THE SECOND FORM's CARD OF 'cordwoodlaw9.EpochPlays'. -/
def epochPlaysUptoCard : Claim7 := { stood := { row := epochPlaysUptoRow, standIns := [], harness := (true, "722cee6a60348f39d38f27abefa37fa4fdcbb3c1ea04ffb9322be7207eed8a8a"), looks := true }, kinds := [], alts := [], laidByText := true, laidKinds := [.sentinel, .sentinel, .sentinel, .sentinel, .sentinel, .sentinel, .sentinel, .sentinel, .sentinel, .sentinel, .sentinel, .sentinel, .sentinel, .sentinel, .sentinel, .sentinel, .sentinel, .sentinel, .sentinel], laidTests := true, laidLooks := .later }
def EpochPlaysUptoCardSaid : Prop := Claim7.holds Tryd.pinned (.plain (OpenSpec.upto epochPlaysSpec)) epochPlaysUptoCard

/-- THE SECOND FORM's CARD OF 'cordwoodlaw9.EpochMany'. -/
def epochManyUptoCard : Claim7 := { stood := { row := epochManyUptoRow, standIns := [], harness := (true, "722cee6a60348f39d38f27abefa37fa4fdcbb3c1ea04ffb9322be7207eed8a8a"), looks := true }, kinds := [], alts := [], laidByText := true, laidKinds := [.sentinel, .sentinel, .sentinel, .sentinel, .sentinel], laidTests := true, laidLooks := .later }
def EpochManyUptoCardSaid : Prop := Claim7.holds Tryd.pinned (.plain (OpenSpec.upto epochManySpec)) epochManyUptoCard

/-- THE SECOND FORM's CARD OF 'cordwoodlaw6.IndexReads'. -/
def indexReadsUptoCard : Claim7 := { stood := { row := indexReadsUptoRow, standIns := [], harness := (true, "722cee6a60348f39d38f27abefa37fa4fdcbb3c1ea04ffb9322be7207eed8a8a"), looks := true }, kinds := [], alts := [], laidByText := true, laidKinds := [.sentinel, .sentinel, .sentinel, .sentinel, .sentinel, .sentinel, .sentinel, .sentinel, .sentinel, .sentinel, .sentinel, .sentinel, .sentinel, .sentinel, .sentinel, .sentinel, .sentinel, .sentinel, .sentinel], laidTests := true, laidLooks := .later }
def IndexReadsUptoCardSaid : Prop := Claim7.holds Tryd.pinned (.plain (OpenSpec.upto indexReadsSpec)) indexReadsUptoCard

/-- THE SECOND FORM's CARD OF 'cordwoodlaw6.IndexSpoilt'. -/
def indexSpoiltUptoCard : Claim7 := { stood := { row := indexSpoiltUptoRow, standIns := [], harness := (true, "722cee6a60348f39d38f27abefa37fa4fdcbb3c1ea04ffb9322be7207eed8a8a"), looks := true }, kinds := [], alts := [], laidByText := true, laidKinds := [.sentinel, .sentinel, .sentinel, .sentinel, .sentinel, .sentinel, .sentinel, .sentinel, .sentinel, .sentinel, .sentinel, .sentinel, .sentinel, .sentinel, .sentinel, .sentinel, .sentinel, .sentinel, .sentinel], laidTests := true, laidLooks := .later }
def IndexSpoiltUptoCardSaid : Prop := Claim7.holds Tryd.pinned (.plain (OpenSpec.upto indexSpoiltSpec)) indexSpoiltUptoCard

/-- THE SECOND FORM's CARD OF 'cordwoodlaw6.IndexBack'. -/
def indexBackUptoCard : Claim7 := { stood := { row := indexBackUptoRow, standIns := [], harness := (true, "722cee6a60348f39d38f27abefa37fa4fdcbb3c1ea04ffb9322be7207eed8a8a"), looks := true }, kinds := [], alts := [], laidByText := true, laidKinds := [.sentinel, .sentinel, .sentinel, .sentinel], laidTests := true, laidLooks := .later }
def IndexBackUptoCardSaid : Prop := Claim7.holds Tryd.pinned (.plain (OpenSpec.upto indexBackSpec)) indexBackUptoCard
end Rows
end Go.Proofs.YtjhebnjajnjhhaaDoor
