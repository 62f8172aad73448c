/- There are just five ways from one state to the next: EntryWays returns true at every input. -/
import Derived.Test.YtdodigcmigpdmaaEntryNext
namespace Go.Proofs.Ytdodigcmigpdmaa
open Go Go.RowKit

/-- How many ways lead from state i - 1 to the first j kinds from -1 on. -/
def wayRow (i : Nat) : Nat → Nat
  | 0 => 0
  | j + 1 => wayRow i j + if nextB ((i : Int) - 1) ((j : Int) - 1) then 1 else 0
def waySum : Nat → Nat
  | 0 => 0
  | i + 1 => waySum i + wayRow i 8

theorem wayRow_le (i : Nat) : ∀ j, wayRow i j ≤ j := by
  intro j
  induction j with
  | zero => exact Nat.le_refl _
  | succ j ih => simp only [wayRow]; split <;> omega
theorem waySum_le : ∀ i, waySum i ≤ 8 * i := by
  intro i
  induction i with
  | zero => exact Nat.le_refl _
  | succ i ih => have := wayRow_le i 8; simp only [waySum]; omega
theorem waySum_8 : waySum 8 = 5 := by decide

set_option maxRecDepth 100000 in
set_option maxHeartbeats 400000 in
theorem entryFirst_calls (w : World) : Calls Try.prog 4 #[] w (fun e w' => e = .returned (.bool true) ∧ w = w') := by
  go_enter Try.func4, Try.ntmps4
  go_wp2_with fail
  refine (next_calls 2 4 _).mono ?_
  rintro e w1 ⟨rfl, rfl⟩
  have hn : nextB 2 4 = false := by decide
  rw [hn]
  go_wp2_with fail
  go_ret
  exact ⟨rfl, rfl⟩

set_option maxRecDepth 100000 in
set_option maxHeartbeats 2000000 in
theorem entryWays_walk (a b : Int) (w : World) :
    Calls Try.prog 3 #[.int .i64 a, .int .i64 b] w (fun e w' => e = .returned (.bool true) ∧ Below w.heap.size w w') := by
  go_enter Try.func3, Try.ntmps3
  go_wp2_with (go_at_call 4; refine (entryFirst_calls _).mono ?_; rintro e w1 ⟨rfl, rfl⟩)
  go_loop [6, 7] (fun nv sv => ∃ i : Nat, i ≤ 8 ∧ sv = .int .i64 ((i : Int) - 1) ∧ nv = .int .i64 (waySum i)) (fun _ sv => 8 - (intOf sv + 1).toNat)
  case atStart => exact ⟨0, by omega, rfl, rfl⟩
  case round =>
    obtain ⟨i, hi, rfl, rfl⟩ := hrel
    have hws := waySum_le i
    by_cases hlt : i < 8
    · go_wp2_with fail
      go_loop [6, 8] (fun nv kv => ∃ j : Nat, j ≤ 8 ∧ kv = .int .i64 ((j : Int) - 1) ∧ nv = .int .i64 ((waySum i + wayRow i j : Nat) : Int)) (fun _ kv => 8 - (intOf kv + 1).toNat)
      case atStart => exact ⟨0, by omega, rfl, rfl⟩
      case round =>
        obtain ⟨j, hj, rfl, rfl⟩ := hrel
        have hwr := wayRow_le i j
        by_cases hlj : j < 8
        · have hrow : wayRow i (j + 1) = wayRow i j + if nextB ((i : Int) - 1) ((j : Int) - 1) then 1 else 0 := rfl
          have HR := Lib.hid hrow
          clear hrow
          go_wp2_with fail
          refine (next_calls ((i : Int) - 1) ((j : Int) - 1) _).mono ?_
          rintro e w1 ⟨rfl, rfl⟩
          cases hn : nextB ((i : Int) - 1) ((j : Int) - 1) with
          | true =>
            have hb := nextB_true hn
            rw [hn] at HR
            clear hn
            obtain ⟨h1, h2, h3, h4, h5⟩ := hb
            have e4 := bnei ((i : Int) - 1) 4 (by omega)
            go_wp2_with fail
            exact ⟨⟨j + 1, by omega, congrArg (Value.int .i64) (by omega), congrArg (Value.int .i64) (by rw [HR.out]; simp; omega)⟩, by simp [intOf]; omega⟩
          | false =>
            rw [hn] at HR
            clear hn
            go_wp2_with fail
            exact ⟨⟨j + 1, by omega, congrArg (Value.int .i64) (by omega), congrArg (Value.int .i64) (by rw [HR.out]; simp)⟩, by simp [intOf]; omega⟩
        · have h8 : j = 8 := by omega
          subst h8
          go_wp2_with fail
          exact ⟨⟨i + 1, by omega, congrArg (Value.int .i64) (by omega), congrArg (Value.int .i64) rfl⟩, by simp [intOf]; omega⟩
    · have h8 : i = 8 := by omega
      subst h8
      rw [waySum_8]
      clear hws hi hlt
      have fin : ∀ x y : Int, ¬ (0 ≤ x ∧ x ≤ 4 ∧ 1 ≤ y ∧ y ≤ 4) → nextB x y = false := fun x y h => by
        cases hn : nextB x y with
        | false => rfl
        | true => have := nextB_true hn; omega
      by_cases h1 : 0 ≤ a
      · by_cases h2 : a ≤ 4
        · by_cases h3 : 1 ≤ b
          · by_cases h4 : b ≤ 4
            · go_wp2_with fail
              go_ret
              exact ⟨rfl, Below.refl _ _⟩
            · have hf := fin a b (by omega)
              clear fin
              go_wp2_with fail
              refine (next_calls _ _ _).mono ?_
              rintro e w1 ⟨rfl, rfl⟩
              rw [hf]
              go_wp2_with fail
              go_ret
              exact ⟨rfl, Below.refl _ _⟩
          · have hf := fin a b (by omega)
            clear fin
            go_wp2_with fail
            refine (next_calls _ _ _).mono ?_
            rintro e w1 ⟨rfl, rfl⟩
            rw [hf]
            go_wp2_with fail
            go_ret
            exact ⟨rfl, Below.refl _ _⟩
        · have hf := fin a b (by omega)
          clear fin
          go_wp2_with fail
          refine (next_calls _ _ _).mono ?_
          rintro e w1 ⟨rfl, rfl⟩
          rw [hf]
          go_wp2_with fail
          go_ret
          exact ⟨rfl, Below.refl _ _⟩
      · have hf := fin a b (by omega)
        clear fin
        go_wp2_with fail
        refine (next_calls _ _ _).mono ?_
        rintro e w1 ⟨rfl, rfl⟩
        rw [hf]
        go_wp2_with fail
        go_ret
        exact ⟨rfl, Below.refl _ _⟩
end Go.Proofs.Ytdodigcmigpdmaa
