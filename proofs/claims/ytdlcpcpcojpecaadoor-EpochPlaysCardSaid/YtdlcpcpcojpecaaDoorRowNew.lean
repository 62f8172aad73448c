/- A new row. -/
import Derived.Test.YtdlcpcpcojpecaaDoorProg
import Derived.Test.YtdlcpcpcojpecaaDoorBase
namespace Go.Proofs.YtdlcpcpcojpecaaDoor
open Go Go.RowKit

/-- A new row comes back; nothing that was there has turned. -/
def NewRow (e sz n : Nat) (xs : List Value) (w : World) (r : Ending) (w' : World) : Prop :=
  ∃ v, r = .returned v ∧ w'.ownsRow w.heap.size e sz v n xs ∧ Below w.heap.size w w'
end Go.Proofs.YtdlcpcpcojpecaaDoor
