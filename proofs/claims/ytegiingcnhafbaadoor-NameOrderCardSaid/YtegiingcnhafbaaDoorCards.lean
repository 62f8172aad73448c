/-
  DERIVED. GIVEN WITH THE SEED: THE CARDS: each row of YtegiingcnhafbaaDoorRows.lean that lists a variable, with what it lists TIED to the program's text (the seventh form; the later family's looks); each row that meets fmt, with fmt's text TOLD by the authors' own Lean function (tested against real Go, not proved from fmt's source: count such statements apart). THE CARD IS WHAT COUNTS. Prove the row's statement (the work); the ties are given (YtegiingcnhafbaaDoorTie.lean); close each card by the builder's one call (the guide's Derived/Test/ToyasCard.lean, 'card_holds'). Laid BY PROGRAM, IN A SANDBOX (cutbox-door.mjs). By AI agents, Wed Nov 11 2026. No macro, syntax, notation, axiom, sorry.
-/
import Derived.Test.YtegiingcnhafbaaDoorRows
import GoSem.ClaimSeven
namespace Go.Proofs.YtegiingcnhafbaaDoor
namespace Rows

/-- THE TIED CARD OF 'cordwoodlaw5.NameSays'. -/
def nameSaysCard : Claim7 := { stood := { row := nameSaysRow, standIns := [], harness := (true, "dff5abb9e2362e05895f91fb5ab97793ee02976470f1c338fb6a2289ae03eebc"), looks := false }, kinds := [], alts := [], laidByText := true, laidKinds := [.data, .data, .data, .data, .pinned], laidTests := true, laidLooks := .later }
def NameSaysCardSaid : Prop := Claim7.holds Tryd.pinned (.plain (OpenSpec.ofChange nameSaysSpec)) nameSaysCard

/-- THE TIED CARD OF 'cordwoodlaw5.NameBack'. -/
def nameBackCard : Claim7 := { stood := { row := nameBackRow, standIns := [], harness := (true, "dff5abb9e2362e05895f91fb5ab97793ee02976470f1c338fb6a2289ae03eebc"), looks := false }, kinds := [], alts := [], laidByText := true, laidKinds := [.data, .data, .data, .data, .pinned], laidTests := true, laidLooks := .later }
def NameBackCardSaid : Prop := Claim7.holds Tryd.pinned (.plain (OpenSpec.ofChange nameBackSpec)) nameBackCard

/-- THE TIED CARD OF 'cordwoodlaw5.NameUnder'. -/
def nameUnderCard : Claim7 := { stood := { row := nameUnderRow, standIns := [], harness := (true, "dff5abb9e2362e05895f91fb5ab97793ee02976470f1c338fb6a2289ae03eebc"), looks := false }, kinds := [], alts := [], laidByText := true, laidKinds := [.data, .data, .data], laidTests := true, laidLooks := .later }
def NameUnderCardSaid : Prop := Claim7.holds Tryd.pinned (.plain (OpenSpec.ofChange nameUnderSpec)) nameUnderCard

/-- THE TIED CARD OF 'cordwoodlaw5.NameOrder'. -/
def nameOrderCard : Claim7 := { stood := { row := nameOrderRow, standIns := [], harness := (true, "dff5abb9e2362e05895f91fb5ab97793ee02976470f1c338fb6a2289ae03eebc"), looks := false }, kinds := [], alts := [], laidByText := true, laidKinds := [.data, .data, .data], laidTests := true, laidLooks := .later }
def NameOrderCardSaid : Prop := Claim7.holds Tryd.pinned (.plain (OpenSpec.ofChange nameOrderSpec)) nameOrderCard

/-- THE SECOND FORM's CARD OF 'cordwoodlaw5.NameSays'. -/
def nameSaysUptoCard : Claim7 := { stood := { row := nameSaysUptoRow, standIns := [], harness := (true, "dff5abb9e2362e05895f91fb5ab97793ee02976470f1c338fb6a2289ae03eebc"), looks := false }, kinds := [], alts := [], laidByText := true, laidKinds := [.data, .data, .data, .data, .pinned], laidTests := true, laidLooks := .later }
def NameSaysUptoCardSaid : Prop := Claim7.holds Tryd.pinned (.plain (OpenSpec.upto nameSaysSpec)) nameSaysUptoCard

/-- THE SECOND FORM's CARD OF 'cordwoodlaw5.NameBack'. -/
def nameBackUptoCard : Claim7 := { stood := { row := nameBackUptoRow, standIns := [], harness := (true, "dff5abb9e2362e05895f91fb5ab97793ee02976470f1c338fb6a2289ae03eebc"), looks := false }, kinds := [], alts := [], laidByText := true, laidKinds := [.data, .data, .data, .data, .pinned], laidTests := true, laidLooks := .later }
def NameBackUptoCardSaid : Prop := Claim7.holds Tryd.pinned (.plain (OpenSpec.upto nameBackSpec)) nameBackUptoCard

/-- THE SECOND FORM's CARD OF 'cordwoodlaw5.NameUnder'. -/
def nameUnderUptoCard : Claim7 := { stood := { row := nameUnderUptoRow, standIns := [], harness := (true, "dff5abb9e2362e05895f91fb5ab97793ee02976470f1c338fb6a2289ae03eebc"), looks := false }, kinds := [], alts := [], laidByText := true, laidKinds := [.data, .data, .data], laidTests := true, laidLooks := .later }
def NameUnderUptoCardSaid : Prop := Claim7.holds Tryd.pinned (.plain (OpenSpec.upto nameUnderSpec)) nameUnderUptoCard

/-- THE SECOND FORM's CARD OF 'cordwoodlaw5.NameOrder'. -/
def nameOrderUptoCard : Claim7 := { stood := { row := nameOrderUptoRow, standIns := [], harness := (true, "dff5abb9e2362e05895f91fb5ab97793ee02976470f1c338fb6a2289ae03eebc"), looks := false }, kinds := [], alts := [], laidByText := true, laidKinds := [.data, .data, .data], laidTests := true, laidLooks := .later }
def NameOrderUptoCardSaid : Prop := Claim7.holds Tryd.pinned (.plain (OpenSpec.upto nameOrderSpec)) nameOrderUptoCard
end Rows
end Go.Proofs.YtegiingcnhafbaaDoor
