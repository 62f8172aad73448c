/- What a lineage is told, as data. -/
import Derived.Test.YtdlcpcpcojpecaaDoorBase
import Derived.Test.YtdlcpcpcojpecaaDoorProg
namespace Go.Proofs.YtdlcpcpcojpecaaDoor
open Go Go.RowKit

structure DoE where
  kind : Int
  ep : Int
  st : Int

def doeV (x : DoE) : List Value := [.int .i64 x.kind, .int .i64 x.ep, .int .i64 x.st]
theorem doeV_len (l : List DoE) : ∀ x ∈ l, (doeV x).length = 3 := fun _ _ => rfl

theorem doe_cells {w : World} {b o : Nat} {xs : List DoE} (hx : ∀ j u, (xs.flatMap doeV)[j]? = some u → w.cell? ⟨b, o + j, none⟩ = some u) (i : Nat) (hi : i < xs.length) :
    w.cell? ⟨b, o + i * 3, none⟩ = some (.int .i64 xs[i].kind) ∧ w.cell? ⟨b, o + i * 3 + 1, none⟩ = some (.int .i64 xs[i].ep) ∧ w.cell? ⟨b, o + i * 3 + 2, none⟩ = some (.int .i64 xs[i].st) := by
  have h := fun j hj => flat_at doeV 3 xs (doeV_len xs) i hi j hj
  exact ⟨hx (i * 3) _ (h 0 (by omega)), hx (i * 3 + 1) _ (h 1 (by omega)), hx (i * 3 + 2) _ (h 2 (by omega))⟩
end Go.Proofs.YtdlcpcpcojpecaaDoor
