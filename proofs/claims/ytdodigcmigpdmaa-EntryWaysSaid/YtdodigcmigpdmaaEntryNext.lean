/- entry.Next: which state may come to which. -/
import Derived.Test.YtdodigcmigpdmaaProg
import Derived.Test.YtdodigcmigpdmaaBase
namespace Go.Proofs.Ytdodigcmigpdmaa
open Go Go.RowKit

/-- May state s come to kind k? -/
def nextB (s k : Int) : Bool := if k = 1 then decide (s = 0) else if k = 2 then decide (s = 1) else if k = 3 then decide (s = 1 ∨ s = 2) else if k = 4 then decide (s = 3) else false

theorem nextB_true {s k : Int} (h : nextB s k = true) : s < k ∧ s ≤ 3 ∧ 1 ≤ k ∧ k ≤ 4 ∧ 0 ≤ s := by
  unfold nextB at h
  by_cases h1 : k = 1
  · rw [if_pos h1] at h; simp at h; omega
  · rw [if_neg h1] at h
    by_cases h2 : k = 2
    · rw [if_pos h2] at h; simp at h; omega
    · rw [if_neg h2] at h
      by_cases h3 : k = 3
      · rw [if_pos h3] at h; simp at h; omega
      · rw [if_neg h3] at h
        by_cases h4 : k = 4
        · rw [if_pos h4] at h; simp at h; omega
        · rw [if_neg h4] at h; cases h

theorem beqi (a b : Int) (h : a = b) : (a == b) = true := beq_iff_eq.2 h
theorem bnei (a b : Int) (h : a ≠ b) : (a == b) = false := beq_eq_false_iff_ne.2 h

set_option maxRecDepth 100000 in
set_option maxHeartbeats 1000000 in
theorem next_calls (s k : Int) (w : World) :
    Calls Try.prog 5 #[.int .i64 s, .int .i64 k] w (fun e w' => e = .returned (.bool (nextB s k)) ∧ w = w') := by
  by_cases h1 : k = 1
  · subst h1
    have hr : nextB s 1 = (s == 0) := by unfold nextB; rw [if_pos rfl]; by_cases h : s = 0 <;> simp [h]
    rw [hr]; clear hr
    go_enter Try.func5, Try.ntmps5
    go_wp2
    go_ret
    exact ⟨rfl, rfl⟩
  · have e1 := bnei _ _ h1
    clear h1
    by_cases h2 : k = 2
    · subst h2
      have hr : nextB s 2 = (s == 1) := by unfold nextB; rw [if_neg (by omega), if_pos rfl]; by_cases h : s = 1 <;> simp [h]
      rw [hr]; clear hr
      go_enter Try.func5, Try.ntmps5
      go_wp2
      go_ret
      exact ⟨rfl, rfl⟩
    · have e2 := bnei _ _ h2
      clear h2
      by_cases h3 : k = 3
      · subst h3
        by_cases hs : s = 1
        · subst hs
          go_enter Try.func5, Try.ntmps5
          go_wp2
          go_ret
          exact ⟨rfl, rfl⟩
        · have hr : nextB s 3 = (s == 2) := by unfold nextB; rw [if_neg (by omega), if_neg (by omega), if_pos rfl]; by_cases h : s = 2 <;> simp [h, hs]
          rw [hr]; clear hr
          have es := bnei _ _ hs
          clear hs
          go_enter Try.func5, Try.ntmps5
          go_wp2
          go_ret
          exact ⟨rfl, rfl⟩
      · have e3 := bnei _ _ h3
        by_cases h4 : k = 4
        · subst h4
          have hr : nextB s 4 = (s == 3) := by unfold nextB; rw [if_neg (by omega), if_neg (by omega), if_neg (by omega), if_pos rfl]; by_cases h : s = 3 <;> simp [h]
          rw [hr]; clear hr
          go_enter Try.func5, Try.ntmps5
          go_wp2
          go_ret
          exact ⟨rfl, rfl⟩
        · have e4 := bnei _ _ h4
          have hr : nextB s k = false := by
            have h1 : k ≠ 1 := beq_eq_false_iff_ne.1 e1
            have h2 : k ≠ 2 := beq_eq_false_iff_ne.1 e2
            unfold nextB; rw [if_neg h1, if_neg h2, if_neg h3, if_neg h4]
          rw [hr]; clear hr h3 h4
          go_enter Try.func5, Try.ntmps5
          go_wp2
          go_ret
          exact ⟨rfl, rfl⟩

end Go.Proofs.Ytdodigcmigpdmaa
