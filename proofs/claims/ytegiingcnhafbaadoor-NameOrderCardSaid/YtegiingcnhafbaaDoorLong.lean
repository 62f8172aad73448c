/- cordwoodworld.Long. -/
import Derived.Test.YtegiingcnhafbaaDoorProg
import Derived.Test.YtegiingcnhafbaaDoorBase
namespace Go.Proofs.YtegiingcnhafbaaDoor
open Go Go.RowKit

set_option maxRecDepth 100000 in
set_option maxHeartbeats 400000 in
theorem long_calls (n b : Int) (w : World) (hb : 1 ≤ b) (hb2 : b ≤ 2000000000000) :
    Calls Tryd.prog 18 #[.int .i64 n, .int .i64 b] w (fun e w' => e = .returned (.int .i64 (n % b)) ∧ w = w') := by
  have hbd := tmod_bd n b hb
  have he := Lib.hid (emod_of_tmod n b hb)
  by_cases h0 : n.tmod b < 0
  · go_enter Tryd.func18, Tryd.ntmps18
    go_wp2_with fail
    go_ret
    exact ⟨by rw [he.out, if_pos h0]; rfl, rfl⟩
  · go_enter Tryd.func18, Tryd.ntmps18
    go_wp2_with fail
    go_ret
    exact ⟨by rw [he.out, if_neg (by omega)]; rfl, rfl⟩
end Go.Proofs.YtegiingcnhafbaaDoor
