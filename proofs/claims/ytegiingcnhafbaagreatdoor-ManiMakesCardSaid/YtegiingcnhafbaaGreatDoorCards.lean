/-
  DERIVED. GIVEN WITH THE SEED: THE CARDS: each row of YtegiingcnhafbaaGreatDoorRows.lean that lists a variable, with what it lists TIED to the program's text (the seventh form; the later family's looks); each row that meets fmt, with fmt's text TOLD by the authors' own Lean function (tested against real Go, not proved from fmt's source: count such statements apart). THE CARD IS WHAT COUNTS. Prove the row's statement (the work); the ties are given (YtegiingcnhafbaaGreatDoorTie.lean); close each card by the builder's one call (the guide's Derived/Test/ToyasCard.lean, 'card_holds'). Laid BY PROGRAM, IN A SANDBOX (cutbox-door.mjs). By AI agents, Wed Nov 11 2026. No macro, syntax, notation, axiom, sorry.
-/
import Derived.Test.YtegiingcnhafbaaGreatDoorRows
import GoSem.ClaimSeven
namespace Go.Proofs.YtegiingcnhafbaaGreatDoor
namespace Rows

/-- THE TIED CARD OF 'cordwoodlaw14.ManiMakes'. -/
def maniMakesCard : Claim7 := { stood := { row := maniMakesRow, standIns := [], harness := (true, "32527af386e202ffdfa184efd0a90012324f20a739287617801c5783fd529554"), looks := true }, kinds := [], alts := [], laidByText := true, laidKinds := [.data, .data, .data, .sentinel, .sentinel, .sentinel, .sentinel, .sentinel, .sentinel, .sentinel, .sentinel, .sentinel, .sentinel, .sentinel, .sentinel, .sentinel, .sentinel, .sentinel, .sentinel, .sentinel, .sentinel, .sentinel], laidTests := true, laidLooks := .later }
def ManiMakesCardSaid : Prop := Claim7.holds Tryz.pinned (.plain (OpenSpec.ofChange maniMakesSpec)) maniMakesCard

/-- THE SECOND FORM's CARD OF 'cordwoodlaw14.ManiMakes'. -/
def maniMakesUptoCard : Claim7 := { stood := { row := maniMakesUptoRow, standIns := [], harness := (true, "32527af386e202ffdfa184efd0a90012324f20a739287617801c5783fd529554"), looks := true }, kinds := [], alts := [], laidByText := true, laidKinds := [.data, .data, .data, .sentinel, .sentinel, .sentinel, .sentinel, .sentinel, .sentinel, .sentinel, .sentinel, .sentinel, .sentinel, .sentinel, .sentinel, .sentinel, .sentinel, .sentinel, .sentinel, .sentinel, .sentinel, .sentinel], laidTests := true, laidLooks := .later }
def ManiMakesUptoCardSaid : Prop := Claim7.holds Tryz.pinned (.plain (OpenSpec.upto maniMakesSpec)) maniMakesUptoCard
end Rows
end Go.Proofs.YtegiingcnhafbaaGreatDoor
