/- name.Valid: it answers, whatever the text is. -/
import Derived.Test.YtldopocmmeidkaaDoorMan
import Derived.Deep.CutBlock
import Derived.Deep.DeepCutAuto
namespace Go.Proofs.YtldopocmmeidkaaDoor
open Go Go.RowKit Man

/-- It answers, and the world is as it was. -/
def SomeB (w : World) (e : Ending) (w' : World) : Prop := ∃ t : Bool, e = .returned (.bool t) ∧ w' = w

/-- It answers, and what was there is as it was. -/
def BoolW (w : World) (e : Ending) (w' : World) : Prop := ∃ t : Bool, e = .returned (.bool t) ∧ Below w.heap.size w w'

set_option maxRecDepth 100000 in
set_option maxHeartbeats 1000000 in
theorem nameSmall_calls (c : Nat) (w : World) : Calls Tryd.prog 97 #[.int .u8 (c : Int)] w (SomeB w) := by
  by_cases h1 : 97 ≤ c
  · by_cases h2 : c ≤ 122
    · go_enter Tryd.func97, Tryd.ntmps97
      go_wp2_with fail
      go_ret
      exact ⟨_, rfl, rfl⟩
    · go_enter Tryd.func97, Tryd.ntmps97
      go_wp2_with fail
      go_ret
      exact ⟨_, rfl, rfl⟩
  · have h1' : decide ((97 : Int) ≤ (c : Int)) = false := decide_eq_false (by omega)
    go_enter Tryd.func97, Tryd.ntmps97
    go_wp2_with fail
    go_ret
    exact ⟨_, rfl, rfl⟩

set_option maxRecDepth 100000 in
set_option maxHeartbeats 1000000 in
theorem nameValid_calls (s : ByteArray) (w : World) (hm : s.size ≤ 1000000) : Calls Tryd.prog 83 #[.string s] w (SomeB w) := by
  by_cases t1 : s.size < 1
  · go_enter Tryd.func83, Tryd.ntmps83
    go_wp2_with fail
    go_ret
    exact ⟨_, rfl, rfl⟩
  · by_cases t2 : 64 < s.size
    · have t1' : decide ((s.size : Int) < 1) = false := decide_eq_false (by omega)
      clear t1
      go_enter Tryd.func83, Tryd.ntmps83
      go_wp2_with fail
      go_ret
      exact ⟨_, rfl, rfl⟩
    · have t1' : decide ((s.size : Int) < 1) = false := decide_eq_false (by omega)
      have t2' : decide (64 < (s.size : Int)) = false := decide_eq_false (by omega)
      go_enter Tryd.func83, Tryd.ntmps83
      go_wp2_with fail
      go_loopw [3, 4, 15] (fun _ _ iv wr => ∃ i : Nat, i ≤ s.size ∧ iv = .int .i64 i ∧ wr = w) (fun _ _ iv _ => s.size - (intOf iv).toNat)
      case atStart => exact ⟨0, Nat.zero_le _, rfl, rfl⟩
      case round =>
        obtain ⟨i, hi, rfl, rfl⟩ := hrel
        by_cases hlt : i < s.size
        · go_upto_region 7 with fail
          obtain ⟨c, hc⟩ : ∃ c, c = s[i].toNat := ⟨_, rfl⟩
          rw [← hc]
          clear hc
          have hsm := nameSmall_calls c wr
          go_cut [43] (fun v w' => ∃ t : Bool, v = .bool t ∧ w' = wr)
          case first =>
            go_wp2_with fail
            refine hsm.mono ?_
            rintro e w2 ⟨t, rfl, rfl⟩
            cases t
            · by_cases q1 : c < 48
              · by_cases q2 : c = 46
                · subst q2
                  go_wp2_with fail
                  go_meet
                  exact ⟨_, rfl, rfl⟩
                · by_cases q3 : c = 45
                  · subst q3
                    go_wp2_with fail
                    go_meet
                    exact ⟨_, rfl, rfl⟩
                  · have q4 : ¬ c = 95 := by omega
                    go_wp2_with fail
                    go_meet
                    exact ⟨_, rfl, rfl⟩
              · have f1 : decide ((c : Int) < 48) = false := decide_eq_false (by omega)
                by_cases q5 : 57 < c
                · by_cases q4 : c = 95
                  · subst q4
                    go_wp2_with fail
                    go_meet
                    exact ⟨_, rfl, rfl⟩
                  · have q2 : ¬ c = 46 := by omega
                    have q3 : ¬ c = 45 := by omega
                    go_wp2_with fail
                    go_meet
                    exact ⟨_, rfl, rfl⟩
                · have f5 : decide (57 < (c : Int)) = false := decide_eq_false (by omega)
                  go_wp2_with fail
                  go_meet
                  exact ⟨_, rfl, rfl⟩
            · go_wp2_with fail
              go_meet
              exact ⟨_, rfl, rfl⟩
          case rest =>
            obtain ⟨t, rfl, rfl⟩ := hcut
            cases t
            · go_wp2_with fail
              exact ⟨⟨i + 1, by omega, by go_num, trivial⟩, by simp [intOf]; omega⟩
            · go_wp2_with fail
              go_ret
              exact ⟨_, rfl, rfl⟩
        · go_wp2_with fail
          go_ret
          exact ⟨_, rfl, rfl⟩
end Go.Proofs.YtldopocmmeidkaaDoor
