/-
  DERIVED. GIVEN WITH THE SEED: THE CARDS: each row of YtdlcpcpcojpecaaDoorRows.lean that lists a variable, with what it lists TIED to the program's text (the seventh form; the later family's looks); each row that meets fmt, with fmt's text TOLD by the authors' own Lean function (tested against real Go, not proved from fmt's source: count such statements apart). THE CARD IS WHAT COUNTS. Prove the row's statement (the work); the ties are given (YtdlcpcpcojpecaaDoorTie.lean); close each card by the builder's one call (the guide's Derived/Test/ToyasCard.lean, 'card_holds'). Laid BY PROGRAM, IN A SANDBOX (cutbox-door.mjs). By AI agents, Wed Nov 11 2026. No macro, syntax, notation, axiom, sorry.
-/
import Derived.Test.YtdlcpcpcojpecaaDoorRows
import GoSem.ClaimSeven
namespace Go.Proofs.YtdlcpcpcojpecaaDoor
namespace Rows

/-- THE TIED CARD OF 'cordwoodlaw9.EpochPlays'. -/
def epochPlaysCard : Claim7 := { stood := { row := epochPlaysRow, standIns := [], harness := (true, "97e9f1bf5ba3a11784d65c050a65f04a2fe94a88ac03f9d58755bc6eec36e4ba"), looks := true }, kinds := [], alts := [], laidByText := true, laidKinds := [.sentinel, .sentinel, .sentinel, .sentinel, .sentinel, .sentinel, .sentinel, .sentinel, .sentinel, .sentinel, .sentinel, .sentinel, .sentinel, .sentinel, .sentinel, .sentinel, .sentinel, .sentinel, .sentinel], laidTests := true, laidLooks := .later }
def EpochPlaysCardSaid : Prop := Claim7.holds Tryd.pinned (.plain (OpenSpec.ofChange epochPlaysSpec)) epochPlaysCard

/-- THE SECOND FORM's CARD OF 'cordwoodlaw9.EpochPlays'. -/
def epochPlaysUptoCard : Claim7 := { stood := { row := epochPlaysUptoRow, standIns := [], harness := (true, "97e9f1bf5ba3a11784d65c050a65f04a2fe94a88ac03f9d58755bc6eec36e4ba"), looks := true }, kinds := [], alts := [], laidByText := true, laidKinds := [.sentinel, .sentinel, .sentinel, .sentinel, .sentinel, .sentinel, .sentinel, .sentinel, .sentinel, .sentinel, .sentinel, .sentinel, .sentinel, .sentinel, .sentinel, .sentinel, .sentinel, .sentinel, .sentinel], laidTests := true, laidLooks := .later }
def EpochPlaysUptoCardSaid : Prop := Claim7.holds Tryd.pinned (.plain (OpenSpec.upto epochPlaysSpec)) epochPlaysUptoCard
end Rows
end Go.Proofs.YtdlcpcpcojpecaaDoor
