/- cordwoodlaw15.first. -/
import Derived.Test.YtldopocmmeidkaaDoorEntBytes
import Derived.Test.YtldopocmmeidkaaDoorSee
import Derived.Test.YtldopocmmeidkaaDoorSameBytes
namespace Go.Proofs.YtldopocmmeidkaaDoor
open Go Go.RowKit Man Vint Crc

theorem entNext_calls (w : World) : Calls Tryd.prog 28 #[.int .i64 2, .int .i64 4] w (fun e w' => e = .returned (.bool false) ∧ ∃ n, w' = w.drewN n) := by
  go_enter Tryd.func28, Tryd.ntmps28
  go_wp2_with fail
  go_ret
  exact ⟨rfl, 0, rfl⟩
theorem entFirst_calls (w : World) : Calls Tryd.prog 9 #[] w (fun e w' => e = .returned (.bool true) ∧ ∃ n, w' = w.drewN n) := by
  have hn := entNext_calls w
  go_enter Tryd.func9, Tryd.ntmps9
  go_wp2_with fail
  with_reducible refine hn.mono ?_
  rintro e w1 ⟨rfl, n, rfl⟩
  go_wp2_with fail
  go_ret
  exact ⟨rfl, n, rfl⟩
end Go.Proofs.YtldopocmmeidkaaDoor
