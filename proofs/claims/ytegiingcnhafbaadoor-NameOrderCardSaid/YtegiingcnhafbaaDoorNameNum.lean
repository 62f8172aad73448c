/- name.number: what so many digits say. -/
import Derived.Test.YtegiingcnhafbaaDoorNamePlain
namespace Go.Proofs.YtegiingcnhafbaaDoor
open Go Go.RowKit

/-- The answer of 'number'. -/
def numV : Option Nat → Value
  | some n => .tuple #[.int .i64 (n : Int), .bool true]
  | none => .tuple #[.int .i64 0, .bool false]
theorem numL_none {s : ByteArray} {i : Nat} (hi : i < s.size) (h : ¬ (48 ≤ (s[i]).toNat ∧ (s[i]).toNat ≤ 57)) : numL s.data.toList = none := by
  unfold numL
  rw [if_neg]
  intro ha
  have := List.all_eq_true.1 ha (s[i]) (by
    rw [List.mem_iff_getElem]
    exact ⟨i, by rw [kind_len]; exact hi, by rw [Array.getElem_toList]; rfl⟩)
  exact h (of_decide_eq_true this)
theorem numL_some {s : ByteArray} (h : ∀ j (hj : j < s.size), 48 ≤ (s[j]).toNat ∧ (s[j]).toNat ≤ 57) : numL s.data.toList = some (valL s.data.toList) := by
  unfold numL
  rw [if_pos]
  rw [List.all_eq_true]
  intro x hx
  obtain ⟨j, hj, rfl⟩ := List.mem_iff_getElem.1 hx
  rw [decide_eq_true_eq]
  have hj' : j < s.size := by rw [← kind_len]; exact hj
  rw [Array.getElem_toList]
  exact h j hj'
theorem val_take {s : ByteArray} (i : Nat) (hi : i < s.size) : valL (s.data.toList.take (i + 1)) = 10 * valL (s.data.toList.take i) + ((s[i]).toNat - 48) := by
  rw [List.take_succ_eq_append_getElem (by rw [kind_len]; exact hi), valL_snoc, Array.getElem_toList]
  rfl
theorem val_small {s : ByteArray} (i : Nat) (hi : i ≤ s.size) (hs : i ≤ 12) (h : ∀ j (hj : j < s.size), j < i → 48 ≤ (s[j]).toNat ∧ (s[j]).toNat ≤ 57) : valL (s.data.toList.take i) ≤ 1000000000000 := by
  have h1 := valL_lt (s.data.toList.take i) (fun x hx => by
    obtain ⟨j, hj, rfl⟩ := List.mem_iff_getElem.1 hx
    rw [List.length_take, kind_len] at hj
    rw [List.getElem_take, Array.getElem_toList]
    exact h j (by omega) (by omega))
  rw [List.length_take, kind_len, Nat.min_eq_left hi] at h1
  have h2 : 10 ^ i ≤ 10 ^ 12 := Nat.pow_le_pow_right (by omega) hs
  have h3 : (10 : Nat) ^ 12 = 1000000000000 := by decide
  omega

set_option maxRecDepth 100000 in
set_option maxHeartbeats 1000000 in
theorem number_is (s : ByteArray) (k : Nat) (w : World) (hm : s.size ≤ 1000000) (hk : k ≤ 13) :
    Calls Tryd.prog 25 #[.string s, .int .i64 (k : Int)] w (fun e w' => e = .returned (numV (if s.size = k then numL s.data.toList else none)) ∧ w' = w) := by
  by_cases t1 : s.size = k
  · rw [if_pos t1]
    have t1' : ((s.size : Int) != (k : Int)) = false := by rw [bne_eq_false_iff_eq]; omega
    have hs13 : s.size ≤ 13 := by omega
    obtain ⟨R, hR⟩ : ∃ R, R = numV (numL s.data.toList) := ⟨_, rfl⟩
    rw [← hR]
    have HR := Lib.hid hR
    clear hR t1
    go_enter Tryd.func25, Tryd.ntmps25
    go_wp2_with fail
    go_loopw [6, 7, 14] (fun nv _ iv wr => ∃ (i n : Nat), i ≤ s.size ∧ iv = .int .i64 i ∧ nv = .int .i64 n ∧ n = valL (s.data.toList.take i) ∧ wr = w ∧ ∀ j (h : j < s.size), j < i → 48 ≤ (s[j]).toNat ∧ (s[j]).toNat ≤ 57) (fun _ _ iv _ => s.size - (intOf iv).toNat)
    case atStart => exact ⟨0, 0, Nat.zero_le _, rfl, rfl, rfl, rfl, fun j _ h => by omega⟩
    case round =>
      obtain ⟨i, n, hi, rfl, rfl, hn, hw, hj⟩ := hrel
      subst hw
      have HJ := Lib.hid hj
      have HN := Lib.hid hn
      clear hj hn
      by_cases hlt : i < s.size
      · obtain ⟨c, hc⟩ : ∃ c, c = (s[i]).toNat := ⟨_, rfl⟩
        have hb : n ≤ 1000000000000 := by rw [HN.out]; exact val_small i (by omega) (by omega) HJ.out
        have HQ : Hid (48 ≤ c ∧ c ≤ 57 → (∀ j (h : j < s.size), j < i + 1 → 48 ≤ (s[j]).toNat ∧ (s[j]).toNat ≤ 57) ∧ 10 * n + (c - 48) = valL (s.data.toList.take (i + 1))) := Lib.hid (fun hq => ⟨fun j h hji => by
            rcases Nat.lt_or_ge j i with h1 | h1
            · exact HJ.out j h h1
            · obtain rfl : j = i := by omega
              rw [← hc]; exact hq, by rw [val_take i hlt, HN.out, hc]⟩)
        have HB : Hid (¬ (48 ≤ c ∧ c ≤ 57) → R = numV none) := Lib.hid (fun h => by rw [HR.out, numL_none hlt (by rw [← hc]; exact h)])
        by_cases q1 : c < 48
        · have q1' : decide ((c : Int) < 48) = true := decide_eq_true (by omega)
          go_wp2_with fail
          go_ret2
          exact ⟨by rw [HB.out (by omega)]; rfl, rfl⟩
        · have q1' : decide ((c : Int) < 48) = false := decide_eq_false (by omega)
          by_cases q2 : 57 < c
          · have q2' : decide (57 < (c : Int)) = true := decide_eq_true (by omega)
            go_wp2_with fail
            go_ret2
            exact ⟨by rw [HB.out (by omega)]; rfl, rfl⟩
          · have q2' : decide (57 < (c : Int)) = false := decide_eq_false (by omega)
            obtain ⟨d, hd⟩ : ∃ d : Nat, c = d + 48 := ⟨c - 48, by omega⟩
            obtain ⟨g1, g2⟩ := HQ.out ⟨by omega, by omega⟩
            have G1 := Lib.hid g1
            have G2 := Lib.hid g2
            have hd9 : d ≤ 9 := by omega
            clear g1 g2 HB HQ q1 q2
            go_wp2_with fail
            exact ⟨⟨i + 1, 10 * n + (c - 48), by omega, by go_num, by go_num, G2.out, by first | rfl | trivial, G1.out⟩, by simp [intOf]; omega⟩
      · have hE : R = numV (some n) := by
          rw [HR.out, numL_some (fun j h => HJ.out j h (by omega)), HN.out, List.take_of_length_le (by rw [kind_len]; omega)]
        have HE := Lib.hid hE
        clear hE
        go_wp2_with fail
        go_ret2
        exact ⟨by rw [HE.out]; rfl, rfl⟩
  · rw [if_neg t1]
    have t1' : ((s.size : Int) != (k : Int)) = true := by rw [bne_iff_ne]; omega
    have hk2 := hk
    go_enter Tryd.func25, Tryd.ntmps25
    go_wp2_with fail
    go_ret2
    exact ⟨rfl, rfl⟩
end Go.Proofs.YtegiingcnhafbaaDoor
