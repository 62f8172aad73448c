/- The document's PutInt. -/
import Derived.Test.YtldopocmmeidkaaDoorRefPut
namespace Go.Proofs.YtldopocmmeidkaaDoor
open Go Go.RowKit Vint

set_option maxRecDepth 100000 in
set_option maxHeartbeats 400000 in
theorem refPutInt_calls (m0 : Int) (w : World) (hm0 : I64 m0) :
    Calls Tryd.prog 42 #[.int .i64 m0] w (NewRow 5 1 (putL (fold m0)).length (bvs (putL (fold m0))) w) := by
  go_enter Tryd.func42, Tryd.ntmps42
  go_wp2_with fail
  rw [fold_bits m0 hm0]
  refine (refPut_calls (fold m0) w (fold_lt _ hm0.out.1 hm0.out.2)).mono ?_
  rintro e w1 ⟨v1, rfl, ho1, hb1⟩
  go_wp2
  go_ret
  exact ⟨v1, rfl, ho1, hb1⟩
end Go.Proofs.YtldopocmmeidkaaDoor
