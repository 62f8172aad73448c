/- The example of chapter 2. -/
import Derived.Test.YtlgbdibfpboleaaDoorVintInt
import Derived.Test.YtlgbdibfpboleaaDoorSameBytes
namespace Go.Proofs.YtlgbdibfpboleaaDoor
open Go Go.RowKit Vint

set_option maxRecDepth 100000 in
set_option maxHeartbeats 400000 in
theorem vintFirst_calls (w : World) :
    Calls Tryd.prog 12 #[] w (fun e w' => e = .returned (.bool true) ∧ Below w.heap.size w w') := by
  go_enter Tryd.func12, Tryd.ntmps12
  go_wp2_with fail
  refine (put_calls _ 0 [] 300 w (Rd.nil _ _) (by omega) (by unfold U64; omega)).mono ?_
  rintro e w1 ⟨v1, rfl, ho1, hb1⟩
  rw [putL_300] at ho1
  have r1 : Rd (w1.alloc (.cells #[.int .u8 172, .int .u8 2] 5)) 1 v1 2 (bvs [172, 2]) := (Rd.of_owns ho1).below (below_alloc _ _)
  have r2 : Rd (w1.alloc (.cells #[.int .u8 172, .int .u8 2] 5)) 1 (.slice (some ⟨w1.heap.size, 0, none⟩) 2 2) 2 (bvs [172, 2]) := Rd.new w1 #[.int .u8 172, .int .u8 2] _ 1 2 rfl (by decide)
  clear ho1
  go_wp2_with fail
  refine (sameBytes_calls _ _ [172, 2] [172, 2] _ r1 r2).mono ?_
  rintro e w2 ⟨rfl, nq, rfl⟩
  go_wp2_with fail
  go_ret
  exact ⟨rfl, below_drewN (hb1.alloc hb1.size _) _⟩

end Go.Proofs.YtlgbdibfpboleaaDoor
