/- name.Valid: which texts are names. -/
import Derived.Test.YtegiingcnhafbaaDoorProg
import Derived.Test.YtegiingcnhafbaaDoorBase
import Derived.Test.YtegiingcnhafbaaDoorPlain
import Derived.Deep.CutBlock
import Derived.Deep.DeepCutAuto
namespace Go.Proofs.YtegiingcnhafbaaDoor
open Go Go.RowKit

theorem name_beq (a b : ByteArray) : (a.toList == b.toList) = decide (a = b) := by
  rw [ByteArray.toList_eq, ByteArray.toList_eq]
  by_cases e : a = b
  · subst e; simp
  · rw [decide_eq_false e, beq_eq_false_iff_ne]
    intro h
    exact e (ByteArray.ext (Array.ext' h))

/-- A byte that a name may have. -/
def okC (c : Nat) : Bool := decide (97 ≤ c ∧ c ≤ 122) || decide (48 ≤ c ∧ c ≤ 57) || c == 46 || c == 45 || c == 95
def nameOk (s : ByteArray) : Bool := decide (1 ≤ s.size ∧ s.size ≤ 64 ∧ ∀ i (h : i < s.size), okC (s[i]).toNat = true)

set_option maxRecDepth 100000 in
set_option maxHeartbeats 1000000 in
theorem nameSmall_is (c : Nat) (w : World) : Calls Tryd.prog 32 #[.int .u8 (c : Int)] w (fun e w' => e = .returned (.bool (decide (97 ≤ c ∧ c ≤ 122))) ∧ w' = w) := by
  by_cases h1 : 97 ≤ c
  · by_cases h2 : c ≤ 122
    · rw [decide_eq_true ⟨h1, h2⟩]
      go_enter Tryd.func32, Tryd.ntmps32
      go_wp2_with fail
      go_ret
      exact ⟨by first | rfl | (simp; omega), rfl⟩
    · rw [decide_eq_false (fun h => h2 h.2)]
      have h2' : decide (c ≤ 122) = false := decide_eq_false h2
      go_enter Tryd.func32, Tryd.ntmps32
      go_wp2_with fail
      go_ret
      exact ⟨by first | rfl | (simp; omega), rfl⟩
  · rw [decide_eq_false (fun h => h1 h.1)]
    have h1' : decide ((97 : Int) ≤ (c : Int)) = false := decide_eq_false (by omega)
    go_enter Tryd.func32, Tryd.ntmps32
    go_wp2_with fail
    go_ret
    exact ⟨by first | rfl | (simp; omega), rfl⟩

set_option maxRecDepth 100000 in
set_option maxHeartbeats 1000000 in
theorem nameValid_is (s : ByteArray) (w : World) (hm : s.size ≤ 1000000) : Calls Tryd.prog 12 #[.string s] w (fun e w' => e = .returned (.bool (nameOk s)) ∧ w' = w) := by
  obtain ⟨R, hR⟩ : ∃ R, R = nameOk s := ⟨_, rfl⟩
  have HR := Lib.hid hR
  rw [← hR]
  clear hR
  have HF := Lib.hid (show (¬ 1 ≤ s.size ∨ ¬ s.size ≤ 64 ∨ ∃ i, ∃ h : i < s.size, okC (s[i]).toNat = false) → R = false by
    intro h
    rw [HR.out]
    unfold nameOk
    rw [decide_eq_false_iff_not]
    rintro ⟨h1, h2, h3⟩
    rcases h with h | h | ⟨i, hi, h⟩
    · exact h h1
    · exact h h2
    · rw [h3 i hi] at h; exact absurd h (by decide))
  by_cases t1 : s.size < 1
  · go_enter Tryd.func12, Tryd.ntmps12
    go_wp2_with fail
    go_ret
    exact ⟨by rw [HF.out (.inl (by omega))]; rfl, rfl⟩
  · by_cases t2 : 64 < s.size
    · have t1' : decide ((s.size : Int) < 1) = false := decide_eq_false (by omega)
      clear t1
      go_enter Tryd.func12, Tryd.ntmps12
      go_wp2_with fail
      go_ret
      exact ⟨by rw [HF.out (.inr (.inl (by omega)))]; rfl, rfl⟩
    · have t1' : decide ((s.size : Int) < 1) = false := decide_eq_false (by omega)
      have t2' : decide (64 < (s.size : Int)) = false := decide_eq_false (by omega)
      go_enter Tryd.func12, Tryd.ntmps12
      go_wp2_with fail
      go_loopw [3, 4, 15] (fun _ _ iv wr => ∃ i : Nat, i ≤ s.size ∧ iv = .int .i64 i ∧ wr = w ∧ ∀ j (h : j < s.size), j < i → okC (s[j]).toNat = true) (fun _ _ iv _ => s.size - (intOf iv).toNat)
      case atStart => exact ⟨0, Nat.zero_le _, rfl, rfl, fun j _ h => by omega⟩
      case round =>
        obtain ⟨i, hi, rfl, rfl, hj⟩ := hrel
        have HJ := Lib.hid hj
        clear hj
        by_cases hlt : i < s.size
        · go_upto_region 7 with fail
          obtain ⟨c, hc⟩ : ∃ c, c = s[i].toNat := ⟨_, rfl⟩
          rw [← hc]
          have HC := Lib.hid hc
          clear hc
          have hsm := nameSmall_is c wr
          go_cut [43] (fun v w' => v = .bool (!okC c) ∧ w' = wr)
          case first =>
            go_wp2_with fail
            refine hsm.mono ?_
            rintro e w2 ⟨rfl, rfl⟩
            cases ht : decide (97 ≤ c ∧ c ≤ 122)
            · by_cases q1 : c < 48
              · by_cases q2 : c = 46
                · subst q2
                  go_wp2_with fail
                  go_meet
                  exact ⟨by first | rfl | (rw [show okC c = false by unfold okC; rw [ht]; simp; omega]; simp; omega) | (rw [show okC c = true by unfold okC; rw [ht]; rfl]; rfl) | (rw [show okC c = true by unfold okC; rw [ht]; simp; omega]; rfl), rfl⟩
                · by_cases q3 : c = 45
                  · subst q3
                    go_wp2_with fail
                    go_meet
                    exact ⟨by first | rfl | (rw [show okC c = false by unfold okC; rw [ht]; simp; omega]; simp; omega) | (rw [show okC c = true by unfold okC; rw [ht]; rfl]; rfl) | (rw [show okC c = true by unfold okC; rw [ht]; simp; omega]; rfl), rfl⟩
                  · have q4 : ¬ c = 95 := by omega
                    go_wp2_with fail
                    go_meet
                    exact ⟨by first | rfl | (rw [show okC c = false by unfold okC; rw [ht]; simp; omega]; simp; omega) | (rw [show okC c = true by unfold okC; rw [ht]; rfl]; rfl) | (rw [show okC c = true by unfold okC; rw [ht]; simp; omega]; rfl), rfl⟩
              · have f1 : decide ((c : Int) < 48) = false := decide_eq_false (by omega)
                by_cases q5 : 57 < c
                · by_cases q4 : c = 95
                  · subst q4
                    go_wp2_with fail
                    go_meet
                    exact ⟨by first | rfl | (rw [show okC c = false by unfold okC; rw [ht]; simp; omega]; simp; omega) | (rw [show okC c = true by unfold okC; rw [ht]; rfl]; rfl) | (rw [show okC c = true by unfold okC; rw [ht]; simp; omega]; rfl), rfl⟩
                  · have q2 : ¬ c = 46 := by omega
                    have q3 : ¬ c = 45 := by omega
                    go_wp2_with fail
                    go_meet
                    exact ⟨by first | rfl | (rw [show okC c = false by unfold okC; rw [ht]; simp; omega]; simp; omega) | (rw [show okC c = true by unfold okC; rw [ht]; rfl]; rfl) | (rw [show okC c = true by unfold okC; rw [ht]; simp; omega]; rfl), rfl⟩
                · have f5 : decide (57 < (c : Int)) = false := decide_eq_false (by omega)
                  go_wp2_with fail
                  go_meet
                  exact ⟨by first | rfl | (rw [show okC c = false by unfold okC; rw [ht]; simp; omega]; simp; omega) | (rw [show okC c = true by unfold okC; rw [ht]; rfl]; rfl) | (rw [show okC c = true by unfold okC; rw [ht]; simp; omega]; rfl), rfl⟩
            · go_wp2_with fail
              go_meet
              exact ⟨by first | rfl | (rw [show okC c = false by unfold okC; rw [ht]; simp; omega]; simp; omega) | (rw [show okC c = true by unfold okC; rw [ht]; rfl]; rfl) | (rw [show okC c = true by unfold okC; rw [ht]; simp; omega]; rfl), rfl⟩
          case rest =>
            obtain ⟨rfl, rfl⟩ := hcut
            cases ht : okC c
            · go_wp2_with fail
              go_ret
              exact ⟨by rw [HF.out (.inr (.inr ⟨i, hlt, by rw [← HC.out]; exact ht⟩))]; rfl, rfl⟩
            · go_wp2_with fail
              refine ⟨⟨i + 1, by omega, by go_num, trivial, fun j hjl hj => ?_⟩, by simp [intOf]; omega⟩
              by_cases e : j = i
              · subst e; rw [← HC.out]; exact ht
              · exact HJ.out j hjl (by omega)
        · have hT : R = true := by
            rw [HR.out]
            unfold nameOk
            rw [decide_eq_true_eq]
            exact ⟨by omega, by omega, fun j hjl => HJ.out j hjl (by omega)⟩
          have HTT := Lib.hid hT
          clear hT
          go_wp2_with fail
          go_ret
          exact ⟨by rw [HTT.out]; rfl, rfl⟩
end Go.Proofs.YtegiingcnhafbaaDoor
