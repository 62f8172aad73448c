/- entry.Next and the document's Next, at any two numbers. -/
import Derived.Test.YtldopocmmeidkaaDoorNumber
import Derived.Deep.CutBlock
namespace Go.Proofs.YtldopocmmeidkaaDoor
open Go Go.RowKit

def nextB (s k : Int) : Bool := if k = 1 then decide (s = 0) else if k = 2 then decide (s = 1) else if k = 3 then decide (s = 1 ∨ s = 2) else if k = 4 then decide (s = 3) else false

set_option maxRecDepth 100000 in
set_option maxHeartbeats 1000000 in
theorem entNext_is (s k : Int) (w : World) : Calls Tryd.prog 28 #[.int .i64 s, .int .i64 k] w (fun e w' => e = .returned (.bool (nextB s k)) ∧ Below w.heap.size w w') := by
  have HN := Lib.hid (show nextB s k = if k = 1 then decide (s = 0) else if k = 2 then decide (s = 1) else if k = 3 then decide (s = 1 ∨ s = 2) else if k = 4 then decide (s = 3) else false from rfl)
  obtain ⟨r, hr⟩ : ∃ r, r = nextB s k := ⟨_, rfl⟩
  rw [← hr] at HN ⊢
  clear hr
  by_cases k1 : k = 1
  · subst k1
    go_enter Tryd.func28, Tryd.ntmps28
    go_wp2_with fail
    all_goals (try (go_quiet (fail); go_wp2_with fail))
    all_goals (
      go_ret
      exact ⟨congrArg (fun z => Ending.returned (.bool z)) (by rw [HN.out]; simp_all; try (rw [Bool.eq_iff_iff]; simp)), (by first | exact Below.refl _ _ | exact below_drewN (Below.refl _ _) _)⟩)
  have k1' : (k == 1) = false := by rw [beq_eq_false_iff_ne]; exact k1
  by_cases k2 : k = 2
  · subst k2
    go_enter Tryd.func28, Tryd.ntmps28
    go_wp2_with fail
    all_goals (try (go_quiet (fail); go_wp2_with fail))
    all_goals (
      go_ret
      exact ⟨congrArg (fun z => Ending.returned (.bool z)) (by rw [HN.out]; simp_all; try (rw [Bool.eq_iff_iff]; simp)), (by first | exact Below.refl _ _ | exact below_drewN (Below.refl _ _) _)⟩)
  have k2' : (k == 2) = false := by rw [beq_eq_false_iff_ne]; exact k2
  by_cases k3 : k = 3
  · subst k3
    by_cases s1 : s = 1
    · subst s1
      go_enter Tryd.func28, Tryd.ntmps28
      go_wp2_with fail
      all_goals (try (go_quiet (fail); go_wp2_with fail))
      all_goals (
        go_ret
        exact ⟨congrArg (fun z => Ending.returned (.bool z)) (by rw [HN.out]; simp_all; try (rw [Bool.eq_iff_iff]; simp)), (by first | exact Below.refl _ _ | exact below_drewN (Below.refl _ _) _)⟩)
    · have s1' : (s == 1) = false := by rw [beq_eq_false_iff_ne]; exact s1
      by_cases s2 : s = 2
      · subst s2
        go_enter Tryd.func28, Tryd.ntmps28
        go_wp2_with fail
        all_goals (try (go_quiet (fail); go_wp2_with fail))
        all_goals (
          go_ret
          exact ⟨congrArg (fun z => Ending.returned (.bool z)) (by rw [HN.out]; simp_all; try (rw [Bool.eq_iff_iff]; simp)), (by first | exact Below.refl _ _ | exact below_drewN (Below.refl _ _) _)⟩)
      · have s2' : (s == 2) = false := by rw [beq_eq_false_iff_ne]; exact s2
        go_enter Tryd.func28, Tryd.ntmps28
        go_wp2_with fail
        all_goals (try (go_quiet (fail); go_wp2_with fail))
        all_goals (
          go_ret
          exact ⟨congrArg (fun z => Ending.returned (.bool z)) (by rw [HN.out]; simp_all; try (rw [Bool.eq_iff_iff]; simp)), (by first | exact Below.refl _ _ | exact below_drewN (Below.refl _ _) _)⟩)
  have k3' : (k == 3) = false := by rw [beq_eq_false_iff_ne]; exact k3
  by_cases k4 : k = 4
  · subst k4
    go_enter Tryd.func28, Tryd.ntmps28
    go_wp2_with fail
    all_goals (try (go_quiet (fail); go_wp2_with fail))
    all_goals (
      go_ret
      exact ⟨congrArg (fun z => Ending.returned (.bool z)) (by rw [HN.out]; simp_all; try (rw [Bool.eq_iff_iff]; simp)), (by first | exact Below.refl _ _ | exact below_drewN (Below.refl _ _) _)⟩)
  have k4' : (k == 4) = false := by rw [beq_eq_false_iff_ne]; exact k4
  go_enter Tryd.func28, Tryd.ntmps28
  go_wp2_with fail
  all_goals (try (go_quiet (fail); go_wp2_with fail))
  all_goals (
    go_ret
    exact ⟨congrArg (fun z => Ending.returned (.bool z)) (by rw [HN.out]; simp_all; try (rw [Bool.eq_iff_iff]; simp)), (by first | exact Below.refl _ _ | exact below_drewN (Below.refl _ _) _)⟩)

set_option maxRecDepth 100000 in
set_option maxHeartbeats 1000000 in
theorem refNext_is (s k : Int) (w : World) : Calls Tryd.prog 29 #[.int .i64 s, .int .i64 k] w (fun e w' => e = .returned (.bool (nextB s k)) ∧ Below w.heap.size w w') := by
  have HN := Lib.hid (show nextB s k = if k = 1 then decide (s = 0) else if k = 2 then decide (s = 1) else if k = 3 then decide (s = 1 ∨ s = 2) else if k = 4 then decide (s = 3) else false from rfl)
  obtain ⟨r, hr⟩ : ∃ r, r = nextB s k := ⟨_, rfl⟩
  rw [← hr] at HN ⊢
  clear hr
  by_cases k1 : k = 1
  · subst k1
    go_enter Tryd.func29, Tryd.ntmps29
    go_wp2_with fail
    all_goals (try (go_quiet (fail); go_wp2_with fail))
    all_goals (
      go_ret
      exact ⟨congrArg (fun z => Ending.returned (.bool z)) (by rw [HN.out]; simp_all; try (rw [Bool.eq_iff_iff]; simp)), (by first | exact Below.refl _ _ | exact below_drewN (Below.refl _ _) _)⟩)
  have k1' : (k == 1) = false := by rw [beq_eq_false_iff_ne]; exact k1
  by_cases k2 : k = 2
  · subst k2
    go_enter Tryd.func29, Tryd.ntmps29
    go_wp2_with fail
    all_goals (try (go_quiet (fail); go_wp2_with fail))
    all_goals (
      go_ret
      exact ⟨congrArg (fun z => Ending.returned (.bool z)) (by rw [HN.out]; simp_all; try (rw [Bool.eq_iff_iff]; simp)), (by first | exact Below.refl _ _ | exact below_drewN (Below.refl _ _) _)⟩)
  have k2' : (k == 2) = false := by rw [beq_eq_false_iff_ne]; exact k2
  by_cases k3 : k = 3
  · subst k3
    by_cases s1 : s = 1
    · subst s1
      go_enter Tryd.func29, Tryd.ntmps29
      go_wp2_with fail
      all_goals (try (go_quiet (fail); go_wp2_with fail))
      all_goals (
        go_ret
        exact ⟨congrArg (fun z => Ending.returned (.bool z)) (by rw [HN.out]; simp_all; try (rw [Bool.eq_iff_iff]; simp)), (by first | exact Below.refl _ _ | exact below_drewN (Below.refl _ _) _)⟩)
    · have s1' : (s == 1) = false := by rw [beq_eq_false_iff_ne]; exact s1
      by_cases s2 : s = 2
      · subst s2
        go_enter Tryd.func29, Tryd.ntmps29
        go_wp2_with fail
        all_goals (try (go_quiet (fail); go_wp2_with fail))
        all_goals (
          go_ret
          exact ⟨congrArg (fun z => Ending.returned (.bool z)) (by rw [HN.out]; simp_all; try (rw [Bool.eq_iff_iff]; simp)), (by first | exact Below.refl _ _ | exact below_drewN (Below.refl _ _) _)⟩)
      · have s2' : (s == 2) = false := by rw [beq_eq_false_iff_ne]; exact s2
        go_enter Tryd.func29, Tryd.ntmps29
        go_wp2_with fail
        all_goals (try (go_quiet (fail); go_wp2_with fail))
        all_goals (
          go_ret
          exact ⟨congrArg (fun z => Ending.returned (.bool z)) (by rw [HN.out]; simp_all; try (rw [Bool.eq_iff_iff]; simp)), (by first | exact Below.refl _ _ | exact below_drewN (Below.refl _ _) _)⟩)
  have k3' : (k == 3) = false := by rw [beq_eq_false_iff_ne]; exact k3
  by_cases k4 : k = 4
  · subst k4
    go_enter Tryd.func29, Tryd.ntmps29
    go_wp2_with fail
    all_goals (try (go_quiet (fail); go_wp2_with fail))
    all_goals (
      go_ret
      exact ⟨congrArg (fun z => Ending.returned (.bool z)) (by rw [HN.out]; simp_all; try (rw [Bool.eq_iff_iff]; simp)), (by first | exact Below.refl _ _ | exact below_drewN (Below.refl _ _) _)⟩)
  have k4' : (k == 4) = false := by rw [beq_eq_false_iff_ne]; exact k4
  go_enter Tryd.func29, Tryd.ntmps29
  go_wp2_with fail
  all_goals (try (go_quiet (fail); go_wp2_with fail))
  all_goals (
    go_ret
    exact ⟨congrArg (fun z => Ending.returned (.bool z)) (by rw [HN.out]; simp_all; try (rw [Bool.eq_iff_iff]; simp)), (by first | exact Below.refl _ _ | exact below_drewN (Below.refl _ _) _)⟩)

end Go.Proofs.YtldopocmmeidkaaDoor
