/- The document's number. -/
import Derived.Test.YtegiingcnhafbaaDoorNameNum
namespace Go.Proofs.YtegiingcnhafbaaDoor
open Go Go.RowKit

set_option maxRecDepth 100000 in
set_option maxHeartbeats 1000000 in
theorem refNumber_is (s : ByteArray) (w : World) (hs13 : s.size ≤ 13) :
    Calls Tryd.prog 27 #[.string s] w (fun e w' => e = .returned (numV (numL s.data.toList)) ∧ w' = w) := by
  obtain ⟨R, hR⟩ : ∃ R, R = numV (numL s.data.toList) := ⟨_, rfl⟩
  rw [← hR]
  have HR := Lib.hid hR
  clear hR
  go_enter Tryd.func27, Tryd.ntmps27
  go_wp2_with fail
  go_loopw [4, 5] (fun nv iv wr => ∃ (i n : Nat), i ≤ s.size ∧ iv = .int .i64 i ∧ nv = .int .i64 n ∧ n = valL (s.data.toList.take i) ∧ wr = w ∧ ∀ j (h : j < s.size), j < i → 48 ≤ (s[j]).toNat ∧ (s[j]).toNat ≤ 57) (fun _ iv _ => s.size - (intOf iv).toNat)
  case atStart => exact ⟨0, 0, Nat.zero_le _, rfl, rfl, rfl, rfl, fun j _ h => by omega⟩
  case round =>
    obtain ⟨i, n, hi, rfl, rfl, hn, hw, hj⟩ := hrel
    subst hw
    have HJ := Lib.hid hj
    have HN := Lib.hid hn
    clear hj hn
    by_cases hlt : i < s.size
    · obtain ⟨c, hc⟩ : ∃ c, c = (s[i]).toNat := ⟨_, rfl⟩
      have hb : n ≤ 1000000000000 := by rw [HN.out]; exact val_small i (by omega) (by omega) HJ.out
      have HQ : Hid (48 ≤ c ∧ c ≤ 57 → (∀ j (h : j < s.size), j < i + 1 → 48 ≤ (s[j]).toNat ∧ (s[j]).toNat ≤ 57) ∧ 10 * n + (c - 48) = valL (s.data.toList.take (i + 1))) := Lib.hid (fun hq => ⟨fun j h hji => by
          rcases Nat.lt_or_ge j i with h1 | h1
          · exact HJ.out j h h1
          · obtain rfl : j = i := by omega
            rw [← hc]; exact hq, by rw [val_take i hlt, HN.out, hc]⟩)
      have HB : Hid (¬ (48 ≤ c ∧ c ≤ 57) → R = numV none) := Lib.hid (fun h => by rw [HR.out, numL_none hlt (by rw [← hc]; exact h)])
      by_cases q1 : c < 48
      · have q1' : decide ((c : Int) < 48) = true := decide_eq_true (by omega)
        go_wp2_with fail
        go_ret2
        exact ⟨by rw [HB.out (by omega)]; rfl, rfl⟩
      · have q1' : decide ((c : Int) < 48) = false := decide_eq_false (by omega)
        by_cases q2 : 57 < c
        · have q2' : decide (57 < (c : Int)) = true := decide_eq_true (by omega)
          go_wp2_with fail
          go_ret2
          exact ⟨by rw [HB.out (by omega)]; rfl, rfl⟩
        · have q2' : decide (57 < (c : Int)) = false := decide_eq_false (by omega)
          obtain ⟨d, hd⟩ : ∃ d : Nat, c = d + 48 := ⟨c - 48, by omega⟩
          obtain ⟨g1, g2⟩ := HQ.out ⟨by omega, by omega⟩
          have G1 := Lib.hid g1
          have G2 := Lib.hid g2
          have hd9 : d ≤ 9 := by omega
          clear g1 g2 HB HQ q1 q2
          go_wp2_with fail
          exact ⟨⟨i + 1, 10 * n + (c - 48), by omega, by go_num, by go_num, G2.out, by first | rfl | trivial, G1.out⟩, by simp [intOf]; omega⟩
    · have hE : R = numV (some n) := by
        rw [HR.out, numL_some (fun j h => HJ.out j h (by omega)), HN.out, List.take_of_length_le (by rw [kind_len]; omega)]
      have HE := Lib.hid hE
      clear hE
      go_wp2_with fail
      go_ret2
      exact ⟨by rw [HE.out]; rfl, rfl⟩
end Go.Proofs.YtegiingcnhafbaaDoor
