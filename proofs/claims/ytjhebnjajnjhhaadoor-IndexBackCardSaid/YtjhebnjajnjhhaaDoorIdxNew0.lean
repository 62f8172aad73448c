/- index.New of a step that is none. -/
import Derived.Test.YtjhebnjajnjhhaaDoorIdx
import Derived.Test.YtjhebnjajnjhhaaDoorIdxAsk
namespace Go.Proofs.YtjhebnjajnjhhaaDoor
open Go Go.RowKit Idx

set_option maxRecDepth 100000 in
set_option maxHeartbeats 400000 in
theorem newIdx_zero (S : List Nat) (A : Nat → Addr) {w : World} (hS : Sents S w A) (h4 : 4 ∈ S) :
    Calls Tryd.prog 17 #[.int .i64 0] w (fun e w' => e = .returned (.tuple #[.pointer none, senV A 4]) ∧ Below w.heap.size w w') := by
  have g4 : w.cell? ⟨0, 0, none⟩ = some (.iface 172 (.pointer (some (A 4)))) := hS.cell 4 h4
  go_enter Tryd.func17, Tryd.ntmps17
  go_wp2_with (go_quiet (fail))
  go_ret2
  exact ⟨rfl, below_drewN (Below.refl _ _) _⟩
end Go.Proofs.YtjhebnjajnjhhaaDoor
