/-
  DERIVED. GIVEN WITH THE SEED: THE CARDS: each row of YtlgbdibfpboleaaDoorRows.lean that lists a variable, with what it lists TIED to the program's text (the seventh form; the later family's looks); each row that meets fmt, with fmt's text TOLD by the authors' own Lean function (tested against real Go, not proved from fmt's source: count such statements apart). THE CARD IS WHAT COUNTS. Prove the row's statement (the work); the ties are given (YtlgbdibfpboleaaDoorTie.lean); close each card by the builder's one call (the guide's Derived/Test/ToyasCard.lean, 'card_holds'). Laid BY PROGRAM, IN A SANDBOX (cutbox-door.mjs). By AI agents, Wed Nov 11 2026. No macro, syntax, notation, axiom, sorry.
-/
import Derived.Test.YtlgbdibfpboleaaDoorRows
import GoSem.ClaimSeven
namespace Go.Proofs.YtlgbdibfpboleaaDoor
namespace Rows

/-- THE TIED CARD OF 'cordwoodlaw2.VintSays'. -/
def vintSaysCard : Claim7 := { stood := { row := vintSaysRow, standIns := [], harness := (true, "45eebea068922f46ca3e8df32961f1adf0f860d480ebf9df08e37a5435f8a04a"), looks := true }, kinds := [], alts := [], laidByText := true, laidKinds := [.sentinel, .sentinel, .sentinel, .sentinel, .sentinel, .sentinel, .sentinel, .sentinel, .sentinel, .sentinel, .sentinel, .sentinel, .sentinel, .sentinel, .sentinel, .sentinel, .sentinel, .sentinel, .sentinel], laidTests := true, laidLooks := .later }
def VintSaysCardSaid : Prop := Claim7.holds Tryd.pinned (.plain (OpenSpec.ofChange vintSaysSpec)) vintSaysCard

/-- THE TIED CARD OF 'cordwoodlaw2.VintBack'. -/
def vintBackCard : Claim7 := { stood := { row := vintBackRow, standIns := [], harness := (true, "45eebea068922f46ca3e8df32961f1adf0f860d480ebf9df08e37a5435f8a04a"), looks := true }, kinds := [], alts := [], laidByText := true, laidKinds := [.sentinel, .sentinel, .sentinel, .sentinel, .sentinel, .sentinel, .sentinel, .sentinel, .sentinel, .sentinel, .sentinel, .sentinel, .sentinel, .sentinel, .sentinel, .sentinel, .sentinel, .sentinel, .sentinel], laidTests := true, laidLooks := .later }
def VintBackCardSaid : Prop := Claim7.holds Tryd.pinned (.plain (OpenSpec.ofChange vintBackSpec)) vintBackCard

/-- THE TIED CARD OF 'cordwoodlaw1.CrcSays'. -/
def crcSaysCard : Claim7 := { stood := { row := crcSaysRow, standIns := [], harness := (true, "45eebea068922f46ca3e8df32961f1adf0f860d480ebf9df08e37a5435f8a04a"), looks := true }, kinds := [], alts := [], laidByText := true, laidKinds := [.sentinel, .sentinel, .sentinel, .sentinel, .sentinel, .sentinel, .sentinel, .sentinel, .sentinel, .sentinel, .sentinel, .sentinel, .sentinel, .sentinel, .sentinel, .sentinel, .sentinel, .sentinel, .sentinel], laidTests := true, laidLooks := .later }
def CrcSaysCardSaid : Prop := Claim7.holds Tryd.pinned (.plain (OpenSpec.ofChange crcSaysSpec)) crcSaysCard

/-- THE TIED CARD OF 'cordwoodlaw1.CrcFinds'. -/
def crcFindsCard : Claim7 := { stood := { row := crcFindsRow, standIns := [], harness := (true, "45eebea068922f46ca3e8df32961f1adf0f860d480ebf9df08e37a5435f8a04a"), looks := true }, kinds := [], alts := [], laidByText := true, laidKinds := [.sentinel, .sentinel, .sentinel, .sentinel, .sentinel, .sentinel, .sentinel, .sentinel, .sentinel, .sentinel, .sentinel, .sentinel, .sentinel, .sentinel, .sentinel, .sentinel, .sentinel, .sentinel, .sentinel], laidTests := true, laidLooks := .later }
def CrcFindsCardSaid : Prop := Claim7.holds Tryd.pinned (.plain (OpenSpec.ofChange crcFindsSpec)) crcFindsCard

/-- THE TIED CARD OF 'cordwoodlaw1.CrcBytes'. -/
def crcBytesCard : Claim7 := { stood := { row := crcBytesRow, standIns := [], harness := (true, "45eebea068922f46ca3e8df32961f1adf0f860d480ebf9df08e37a5435f8a04a"), looks := true }, kinds := [], alts := [], laidByText := true, laidKinds := [.sentinel, .sentinel, .sentinel, .sentinel, .sentinel, .sentinel, .sentinel, .sentinel, .sentinel, .sentinel, .sentinel, .sentinel, .sentinel, .sentinel, .sentinel, .sentinel, .sentinel, .sentinel, .sentinel], laidTests := true, laidLooks := .later }
def CrcBytesCardSaid : Prop := Claim7.holds Tryd.pinned (.plain (OpenSpec.ofChange crcBytesSpec)) crcBytesCard

/-- THE TIED CARD OF 'cordwoodlaw2.VintTexts'. -/
def vintTextsCard : Claim7 := { stood := { row := vintTextsRow, standIns := [], harness := (true, "45eebea068922f46ca3e8df32961f1adf0f860d480ebf9df08e37a5435f8a04a"), looks := true }, kinds := [], alts := [], laidByText := true, laidKinds := [.sentinel, .sentinel, .sentinel, .sentinel, .sentinel, .sentinel, .sentinel, .sentinel, .sentinel, .sentinel, .sentinel, .sentinel, .sentinel, .sentinel, .sentinel, .sentinel, .sentinel, .sentinel, .sentinel], laidTests := true, laidLooks := .later }
def VintTextsCardSaid : Prop := Claim7.holds Tryd.pinned (.plain (OpenSpec.ofChange vintTextsSpec)) vintTextsCard

/-- THE TIED CARD OF 'cordwoodlaw2.VintRanges'. -/
def vintRangesCard : Claim7 := { stood := { row := vintRangesRow, standIns := [], harness := (true, "45eebea068922f46ca3e8df32961f1adf0f860d480ebf9df08e37a5435f8a04a"), looks := true }, kinds := [], alts := [], laidByText := true, laidKinds := [.sentinel, .sentinel, .sentinel, .sentinel, .sentinel, .sentinel, .sentinel, .sentinel, .sentinel, .sentinel, .sentinel, .sentinel, .sentinel, .sentinel, .sentinel, .sentinel, .sentinel, .sentinel, .sentinel], laidTests := true, laidLooks := .later }
def VintRangesCardSaid : Prop := Claim7.holds Tryd.pinned (.plain (OpenSpec.ofChange vintRangesSpec)) vintRangesCard

/-- THE TIED CARD OF 'cordwoodlaw2.VintReads'. -/
def vintReadsCard : Claim7 := { stood := { row := vintReadsRow, standIns := [], harness := (true, "45eebea068922f46ca3e8df32961f1adf0f860d480ebf9df08e37a5435f8a04a"), looks := true }, kinds := [], alts := [], laidByText := true, laidKinds := [.sentinel, .sentinel, .sentinel, .sentinel, .sentinel, .sentinel, .sentinel, .sentinel, .sentinel, .sentinel, .sentinel, .sentinel, .sentinel, .sentinel, .sentinel, .sentinel, .sentinel, .sentinel, .sentinel], laidTests := true, laidLooks := .later }
def VintReadsCardSaid : Prop := Claim7.holds Tryd.pinned (.plain (OpenSpec.ofChange vintReadsSpec)) vintReadsCard

/-- THE TIED CARD OF 'cordwoodlaw2.VintRows'. -/
def vintRowsCard : Claim7 := { stood := { row := vintRowsRow, standIns := [], harness := (true, "45eebea068922f46ca3e8df32961f1adf0f860d480ebf9df08e37a5435f8a04a"), looks := true }, kinds := [], alts := [], laidByText := true, laidKinds := [.sentinel, .sentinel, .sentinel, .sentinel, .sentinel, .sentinel, .sentinel, .sentinel, .sentinel, .sentinel, .sentinel, .sentinel, .sentinel, .sentinel, .sentinel, .sentinel, .sentinel, .sentinel, .sentinel], laidTests := true, laidLooks := .later }
def VintRowsCardSaid : Prop := Claim7.holds Tryd.pinned (.plain (OpenSpec.ofChange vintRowsSpec)) vintRowsCard

/-- THE SECOND FORM's CARD OF 'cordwoodlaw2.VintSays'. -/
def vintSaysUptoCard : Claim7 := { stood := { row := vintSaysUptoRow, standIns := [], harness := (true, "45eebea068922f46ca3e8df32961f1adf0f860d480ebf9df08e37a5435f8a04a"), looks := true }, kinds := [], alts := [], laidByText := true, laidKinds := [.sentinel, .sentinel, .sentinel, .sentinel, .sentinel, .sentinel, .sentinel, .sentinel, .sentinel, .sentinel, .sentinel, .sentinel, .sentinel, .sentinel, .sentinel, .sentinel, .sentinel, .sentinel, .sentinel], laidTests := true, laidLooks := .later }
def VintSaysUptoCardSaid : Prop := Claim7.holds Tryd.pinned (.plain (OpenSpec.upto vintSaysSpec)) vintSaysUptoCard

/-- THE SECOND FORM's CARD OF 'cordwoodlaw2.VintBack'. -/
def vintBackUptoCard : Claim7 := { stood := { row := vintBackUptoRow, standIns := [], harness := (true, "45eebea068922f46ca3e8df32961f1adf0f860d480ebf9df08e37a5435f8a04a"), looks := true }, kinds := [], alts := [], laidByText := true, laidKinds := [.sentinel, .sentinel, .sentinel, .sentinel, .sentinel, .sentinel, .sentinel, .sentinel, .sentinel, .sentinel, .sentinel, .sentinel, .sentinel, .sentinel, .sentinel, .sentinel, .sentinel, .sentinel, .sentinel], laidTests := true, laidLooks := .later }
def VintBackUptoCardSaid : Prop := Claim7.holds Tryd.pinned (.plain (OpenSpec.upto vintBackSpec)) vintBackUptoCard

/-- THE SECOND FORM's CARD OF 'cordwoodlaw1.CrcSays'. -/
def crcSaysUptoCard : Claim7 := { stood := { row := crcSaysUptoRow, standIns := [], harness := (true, "45eebea068922f46ca3e8df32961f1adf0f860d480ebf9df08e37a5435f8a04a"), looks := true }, kinds := [], alts := [], laidByText := true, laidKinds := [.sentinel, .sentinel, .sentinel, .sentinel, .sentinel, .sentinel, .sentinel, .sentinel, .sentinel, .sentinel, .sentinel, .sentinel, .sentinel, .sentinel, .sentinel, .sentinel, .sentinel, .sentinel, .sentinel], laidTests := true, laidLooks := .later }
def CrcSaysUptoCardSaid : Prop := Claim7.holds Tryd.pinned (.plain (OpenSpec.upto crcSaysSpec)) crcSaysUptoCard

/-- THE SECOND FORM's CARD OF 'cordwoodlaw1.CrcFinds'. -/
def crcFindsUptoCard : Claim7 := { stood := { row := crcFindsUptoRow, standIns := [], harness := (true, "45eebea068922f46ca3e8df32961f1adf0f860d480ebf9df08e37a5435f8a04a"), looks := true }, kinds := [], alts := [], laidByText := true, laidKinds := [.sentinel, .sentinel, .sentinel, .sentinel, .sentinel, .sentinel, .sentinel, .sentinel, .sentinel, .sentinel, .sentinel, .sentinel, .sentinel, .sentinel, .sentinel, .sentinel, .sentinel, .sentinel, .sentinel], laidTests := true, laidLooks := .later }
def CrcFindsUptoCardSaid : Prop := Claim7.holds Tryd.pinned (.plain (OpenSpec.upto crcFindsSpec)) crcFindsUptoCard

/-- THE SECOND FORM's CARD OF 'cordwoodlaw1.CrcBytes'. -/
def crcBytesUptoCard : Claim7 := { stood := { row := crcBytesUptoRow, standIns := [], harness := (true, "45eebea068922f46ca3e8df32961f1adf0f860d480ebf9df08e37a5435f8a04a"), looks := true }, kinds := [], alts := [], laidByText := true, laidKinds := [.sentinel, .sentinel, .sentinel, .sentinel, .sentinel, .sentinel, .sentinel, .sentinel, .sentinel, .sentinel, .sentinel, .sentinel, .sentinel, .sentinel, .sentinel, .sentinel, .sentinel, .sentinel, .sentinel], laidTests := true, laidLooks := .later }
def CrcBytesUptoCardSaid : Prop := Claim7.holds Tryd.pinned (.plain (OpenSpec.upto crcBytesSpec)) crcBytesUptoCard

/-- THE SECOND FORM's CARD OF 'cordwoodlaw2.VintTexts'. -/
def vintTextsUptoCard : Claim7 := { stood := { row := vintTextsUptoRow, standIns := [], harness := (true, "45eebea068922f46ca3e8df32961f1adf0f860d480ebf9df08e37a5435f8a04a"), looks := true }, kinds := [], alts := [], laidByText := true, laidKinds := [.sentinel, .sentinel, .sentinel, .sentinel, .sentinel, .sentinel, .sentinel, .sentinel, .sentinel, .sentinel, .sentinel, .sentinel, .sentinel, .sentinel, .sentinel, .sentinel, .sentinel, .sentinel, .sentinel], laidTests := true, laidLooks := .later }
def VintTextsUptoCardSaid : Prop := Claim7.holds Tryd.pinned (.plain (OpenSpec.upto vintTextsSpec)) vintTextsUptoCard

/-- THE SECOND FORM's CARD OF 'cordwoodlaw2.VintRanges'. -/
def vintRangesUptoCard : Claim7 := { stood := { row := vintRangesUptoRow, standIns := [], harness := (true, "45eebea068922f46ca3e8df32961f1adf0f860d480ebf9df08e37a5435f8a04a"), looks := true }, kinds := [], alts := [], laidByText := true, laidKinds := [.sentinel, .sentinel, .sentinel, .sentinel, .sentinel, .sentinel, .sentinel, .sentinel, .sentinel, .sentinel, .sentinel, .sentinel, .sentinel, .sentinel, .sentinel, .sentinel, .sentinel, .sentinel, .sentinel], laidTests := true, laidLooks := .later }
def VintRangesUptoCardSaid : Prop := Claim7.holds Tryd.pinned (.plain (OpenSpec.upto vintRangesSpec)) vintRangesUptoCard

/-- THE SECOND FORM's CARD OF 'cordwoodlaw2.VintReads'. -/
def vintReadsUptoCard : Claim7 := { stood := { row := vintReadsUptoRow, standIns := [], harness := (true, "45eebea068922f46ca3e8df32961f1adf0f860d480ebf9df08e37a5435f8a04a"), looks := true }, kinds := [], alts := [], laidByText := true, laidKinds := [.sentinel, .sentinel, .sentinel, .sentinel, .sentinel, .sentinel, .sentinel, .sentinel, .sentinel, .sentinel, .sentinel, .sentinel, .sentinel, .sentinel, .sentinel, .sentinel, .sentinel, .sentinel, .sentinel], laidTests := true, laidLooks := .later }
def VintReadsUptoCardSaid : Prop := Claim7.holds Tryd.pinned (.plain (OpenSpec.upto vintReadsSpec)) vintReadsUptoCard

/-- THE SECOND FORM's CARD OF 'cordwoodlaw2.VintRows'. -/
def vintRowsUptoCard : Claim7 := { stood := { row := vintRowsUptoRow, standIns := [], harness := (true, "45eebea068922f46ca3e8df32961f1adf0f860d480ebf9df08e37a5435f8a04a"), looks := true }, kinds := [], alts := [], laidByText := true, laidKinds := [.sentinel, .sentinel, .sentinel, .sentinel, .sentinel, .sentinel, .sentinel, .sentinel, .sentinel, .sentinel, .sentinel, .sentinel, .sentinel, .sentinel, .sentinel, .sentinel, .sentinel, .sentinel, .sentinel], laidTests := true, laidLooks := .later }
def VintRowsUptoCardSaid : Prop := Claim7.holds Tryd.pinned (.plain (OpenSpec.upto vintRowsSpec)) vintRowsUptoCard
end Rows
end Go.Proofs.YtlgbdibfpboleaaDoor
