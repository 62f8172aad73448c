/- A reader of numbers: where it is. -/
import Derived.Test.YtegiingcnhafbaaGreatDoorReaderAll
namespace Go.Proofs.YtegiingcnhafbaaGreatDoor
open Go Go.RowKit Vint

set_option maxRecDepth 100000 in
theorem readerAt_calls {A : Nat → Addr} {w : World} {g : Nat} {s : Rs} (h : Rdr A w g s) :
    Calls Tryz.prog 38 #[.pointer (some ⟨g, 0, none⟩)] w (fun e w' => e = .returned (.int .i64 (s.pos : Nat)) ∧ w' = w) := by
  obtain ⟨ab, cb, ve, hrow, hown, her, k0, k1, k2, f1⟩ := h.parts
  clear hrow
  go_enter Tryz.func38, Tryz.ntmps38
  go_wp2_with fail
  go_ret
  exact ⟨rfl, rfl⟩
end Go.Proofs.YtegiingcnhafbaaGreatDoor
