/- The document's Before: the order of texts, byte by byte. -/
import Derived.Test.YtegiingcnhafbaaDoorNameOrd
import Derived.Test.YtegiingcnhafbaaDoorNameVal
namespace Go.Proofs.YtegiingcnhafbaaDoor
open Go Go.RowKit

theorem less_cons (c d : UInt8) (x y : List UInt8) : Op.bytesLess (c :: x) (d :: y) = (decide (c < d) || (c == d && Op.bytesLess x y)) := rfl
theorem data_end (s : ByteArray) (i : Nat) (h : s.size ≤ i) : s.data.toList.drop i = [] := List.drop_eq_nil_of_le (by rw [kind_len]; exact h)
theorem data_at (s : ByteArray) (i : Nat) (h : i < s.size) : s.data.toList.drop i = s[i] :: s.data.toList.drop (i + 1) := by
  rw [List.drop_eq_getElem_cons (by rw [kind_len]; exact h), Array.getElem_toList]; rfl

set_option maxRecDepth 100000 in
set_option maxHeartbeats 1000000 in
theorem before_calls (a b : ByteArray) (w : World) (ha : a.size ≤ 9223372036854775807) (_hb : b.size ≤ 9223372036854775807) :
    Calls Tryd.prog 38 #[.string a, .string b] w (fun e w' => e = .returned (.bool (Op.bytesLess a.data.toList b.data.toList)) ∧ Below w.heap.size w w') := by
  obtain ⟨R, hR⟩ : ∃ R, R = Op.bytesLess a.data.toList b.data.toList := ⟨_, rfl⟩
  rw [← hR]
  have HR := Lib.hid hR
  clear hR
  go_enter Tryd.func38, Tryd.ntmps38
  go_wp2_with fail
  go_loopw [5] (fun iv wr => ∃ i : Nat, i ≤ a.size ∧ i ≤ b.size ∧ iv = .int .i64 i ∧ a.data.toList.take i = b.data.toList.take i ∧ Below w.heap.size w wr) (fun iv _ => a.size - (intOf iv).toNat)
  case atStart => exact ⟨0, Nat.zero_le _, Nat.zero_le _, rfl, rfl, Below.refl _ _⟩
  case round =>
    obtain ⟨i, hia, hib, rfl, htk, hw⟩ := hrel
    have HRi : Hid (R = Op.bytesLess (a.data.toList.drop i) (b.data.toList.drop i)) := Lib.hid (by
      rw [HR.out]
      conv => lhs; rw [← List.take_append_drop i a.data.toList, ← List.take_append_drop i b.data.toList, htk]
      exact less_pre _ _ _)
    have HTK := Lib.hid htk
    clear htk
    by_cases h1 : i < a.size
    · by_cases h2 : i < b.size
      · have h1' : decide ((i : Int) < (a.size : Int)) = true := decide_eq_true (by omega)
        have h2' : decide ((i : Int) < (b.size : Int)) = true := decide_eq_true (by omega)
        have h1n : decide (i < a.size) = true := decide_eq_true h1
        have h2n : decide (i < b.size) = true := decide_eq_true h2
        have HC : Hid (R = (decide (a[i] < b[i]) || (a[i] == b[i] && Op.bytesLess (a.data.toList.drop (i + 1)) (b.data.toList.drop (i + 1))))) := Lib.hid (by rw [HRi.out, data_at a i h1, data_at b i h2]; rfl)
        by_cases h3 : a[i] = b[i]
        · have h3' : (((a[i]).toNat : Int) != ((b[i]).toNat : Int)) = false := by rw [h3]; simp
          have HN : Hid (a.data.toList.take (i + 1) = b.data.toList.take (i + 1)) := Lib.hid (by
            rw [List.take_succ_eq_append_getElem (by rw [kind_len]; exact h1), List.take_succ_eq_append_getElem (by rw [kind_len]; exact h2), HTK.out]
            have e1 : a.data.toList[i]'(by rw [kind_len]; exact h1) = a[i] := by rw [Array.getElem_toList]; rfl
            have e2 : b.data.toList[i]'(by rw [kind_len]; exact h2) = b[i] := by rw [Array.getElem_toList]; rfl
            rw [e1, e2, h3])
          clear h3 HC HRi
          go_wp2_with (go_quiet (fail))
          exact ⟨⟨i + 1, by omega, by omega, by go_num, HN.out, below_drewN hw _⟩, by simp [intOf]; omega⟩
        · have h3' : (((a[i]).toNat : Int) != ((b[i]).toNat : Int)) = true := by
            rw [bne_iff_ne]
            exact fun h => h3 (UInt8.toNat_inj.1 (by omega))
          obtain ⟨t, htt⟩ : ∃ t, t = decide ((a[i]).toNat < (b[i]).toNat) := ⟨_, rfl⟩
          have HF : Hid (R = t) := Lib.hid (by
            rw [HC.out, htt, show (a[i] == b[i]) = false from beq_eq_false_iff_ne.2 h3, Bool.false_and, Bool.or_false]
            exact decide_eq_decide.2 UInt8.lt_iff_toNat_lt)
          have h4 : decide ((a[i]).toNat < (b[i]).toNat) = t := htt.symm
          have h5 : decide (((a[i]).toNat : Int) < ((b[i]).toNat : Int)) = t := by rw [htt]; exact decide_eq_decide.2 (by omega)
          clear h3 HC HRi htt
          go_wp2_with (go_quiet (fail))
          go_ret
          exact ⟨by rw [HF.out]; first | rfl | (rw [← h4]; rfl) | simp [h4], by first | exact hw | exact below_drewN hw _ | exact below_drewN (below_drewN hw _) _⟩
      · have h1' : decide ((i : Int) < (a.size : Int)) = true := decide_eq_true (by omega)
        have h2' : decide ((i : Int) < (b.size : Int)) = false := decide_eq_false (by omega)
        have h2n : decide (i < b.size) = false := decide_eq_false h2
        have h1n : decide (i < a.size) = true := decide_eq_true h1
        have h6 : decide (a.size < b.size) = false := decide_eq_false (by omega)
        have h7 : decide ((a.size : Int) < (b.size : Int)) = false := decide_eq_false (by omega)
        have HF : Hid (R = false) := Lib.hid (by
          rw [HRi.out, data_end b i (by omega), data_at a i h1]; rfl)
        clear HRi HTK
        go_wp2_with fail
        go_ret
        exact ⟨by rw [HF.out]; first | rfl | simp [h6], hw⟩
    · have h1' : decide ((i : Int) < (a.size : Int)) = false := decide_eq_false (by omega)
      have h1n : decide (i < a.size) = false := decide_eq_false h1
      obtain ⟨t, htt⟩ : ∃ t, t = decide (a.size < b.size) := ⟨_, rfl⟩
      have HF : Hid (R = t) := Lib.hid (by
        rw [HRi.out, htt, data_end a i (by omega)]
        by_cases h : i < b.size
        · rw [data_at b i h, decide_eq_true (by omega)]; rfl
        · rw [data_end b i (by omega), decide_eq_false (by omega)]; rfl)
      have h4 : decide (a.size < b.size) = t := htt.symm
      clear HRi HTK htt
      go_wp2_with fail
      go_ret
      exact ⟨by rw [HF.out]; first | rfl | (rw [← h4]; rfl) | simp [h4], hw⟩
end Go.Proofs.YtegiingcnhafbaaDoor
