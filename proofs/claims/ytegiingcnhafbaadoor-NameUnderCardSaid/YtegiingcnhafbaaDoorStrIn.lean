/- cordwoodref.In: is a text among these? -/
import Derived.Test.YtegiingcnhafbaaDoorNameVal
namespace Go.Proofs.YtegiingcnhafbaaDoor
open Go Go.RowKit

def inT (l : List ByteArray) (s : ByteArray) : Bool := l.any (fun x => decide (x = s))
theorem inT_iff {l : List ByteArray} {s : ByteArray} : inT l s = true ↔ s ∈ l := by
  unfold inT
  rw [List.any_eq_true]
  exact ⟨fun ⟨x, hx, h⟩ => by rw [← of_decide_eq_true h]; exact hx, fun h => ⟨s, h, decide_eq_true rfl⟩⟩
theorem inT_no {l : List ByteArray} {s : ByteArray} : inT l s = false ↔ ¬ s ∈ l := by
  rw [← inT_iff, Bool.not_eq_true]

set_option maxRecDepth 100000 in
set_option maxHeartbeats 1000000 in
theorem in_calls (v : Value) (l : List ByteArray) (s : ByteArray) (w : World) (h : Rd w 1 v l.length (l.map Value.string)) :
    Calls Tryd.prog 20 #[v, .string s] w (fun e w' => e = .returned (.bool (inT l s)) ∧ w' = w) := by
  obtain ⟨a, c, rfl⟩ := h.slice
  have hlen := h.len_le
  obtain ⟨R, hR⟩ : ∃ R, R = inT l s := ⟨_, rfl⟩
  rw [← hR]
  have HR := Lib.hid hR
  clear hR
  go_enter Tryd.func20, Tryd.ntmps20
  go_wp2_with fail
  go_loopw [5] (fun iv wr => ∃ i : Nat, i ≤ l.length ∧ iv = .int .i64 i ∧ wr = w ∧ ∀ j (h : j < l.length), j < i → l[j] ≠ s) (fun iv _ => l.length - (intOf iv).toNat)
  case atStart => exact ⟨0, Nat.zero_le _, rfl, rfl, fun j _ h => by omega⟩
  case round =>
    obtain ⟨i, hi, rfl, hw, hj⟩ := hrel
    subst hw
    have HJ := Lib.hid hj
    clear hj
    by_cases hlt : i < l.length
    · obtain ⟨b, o, rfl, hc1, hm1, hx1⟩ := h.at (by omega)
      have d0 : wr.cell? ⟨b, o + i, none⟩ = some (.string l[i]) := hx1 i _ (by simp [hlt])
      have HQ : Hid (l[i] ≠ s → ∀ j (h : j < l.length), j < i + 1 → l[j] ≠ s) := Lib.hid (fun hq j h hji => by
        rcases Nat.lt_or_ge j i with h1 | h1
        · exact HJ.out j h h1
        · obtain rfl : j = i := by omega
          exact hq)
      have HB : Hid (l[i] = s → R = true) := Lib.hid (fun h => by rw [HR.out]; exact inT_iff.2 (by rw [← h]; exact List.getElem_mem hlt))
      generalize l[i] = x at d0 HQ HB
      clear HJ
      clear hx1 hc1 hm1
      by_cases e : x = s
      · have t1 : (x.toList == s.toList) = true := by rw [name_beq]; exact decide_eq_true e
        have HT := Lib.hid (HB.out e)
        clear e HB HQ
        go_wp2_with fail
        go_ret
        exact ⟨by rw [HT.out]; rfl, rfl⟩
      · have t1 : (x.toList == s.toList) = false := by rw [name_beq]; exact decide_eq_false e
        have HT := Lib.hid (HQ.out e)
        clear e HB HQ
        go_wp2_with fail
        exact ⟨⟨i + 1, by omega, by go_num, by first | rfl | trivial, HT.out⟩, by simp [intOf]; omega⟩
    · have HT := Lib.hid (show R = false by
        rw [HR.out]
        refine inT_no.2 (fun hm => ?_)
        obtain ⟨j, hj, e⟩ := List.mem_iff_getElem.1 hm
        exact HJ.out j hj (by omega) e)
      go_wp2_with fail
      go_ret
      exact ⟨by rw [HT.out]; rfl, rfl⟩
end Go.Proofs.YtegiingcnhafbaaDoor
