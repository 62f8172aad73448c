/- The document's SameTexts, at two rows of the same texts. -/
import Derived.Test.YtegiingcnhafbaaDoorNameVal
import Derived.Sort.EncStr
namespace Go.Proofs.YtegiingcnhafbaaDoor
open Go Go.RowKit

set_option maxRecDepth 100000 in
set_option maxHeartbeats 1000000 in
theorem sameTexts_calls (va vb : Value) (ts : List (List UInt8)) (w : World) (h1 : Rd w 1 va ts.length (ts.map encStr)) (h2 : Rd w 1 vb ts.length (ts.map encStr)) :
    Calls Tryd.prog 23 #[va, vb] w (fun e w' => e = .returned (.bool true) ∧ Below w.heap.size w w') := by
  obtain ⟨a1, c1, rfl⟩ := h1.slice
  obtain ⟨a2, c2, rfl⟩ := h2.slice
  have hlen := h1.len_le
  go_enter Tryd.func23, Tryd.ntmps23
  go_wp2_with fail
  go_loopw [5, 6] (fun iv _ wr => ∃ i : Nat, i ≤ ts.length ∧ iv = .int .i64 i ∧ Below w.heap.size w wr) (fun iv _ _ => ts.length - (intOf iv).toNat)
  case atStart => exact ⟨0, Nat.zero_le _, rfl, Below.refl _ _⟩
  case round =>
    obtain ⟨i, hi, rfl, hb⟩ := hrel
    by_cases hlt : i < ts.length
    · obtain ⟨b, o, rfl, _, _, hx1⟩ := (h1.below hb).at (by omega)
      obtain ⟨b', o', rfl, _, _, hx2⟩ := (h2.below hb).at (by omega)
      have d1 : wr.cell? ⟨b, o + i, none⟩ = some (encStr ts[i]) := hx1 i _ (by simp [hlt])
      have d2 : wr.cell? ⟨b', o' + i, none⟩ = some (encStr ts[i]) := hx2 i _ (by simp [hlt])
      generalize ts[i] = x at d1 d2
      obtain ⟨xb, hxb⟩ : ∃ xb : ByteArray, xb = ⟨x.toArray⟩ := ⟨_, rfl⟩
      have d1' : wr.cell? ⟨b, o + i, none⟩ = some (.string xb) := by rw [hxb]; exact d1
      have d2' : wr.cell? ⟨b', o' + i, none⟩ = some (.string xb) := by rw [hxb]; exact d2
      clear d1 d2 hxb hx1 hx2
      go_wp2_with (go_quiet (fail))
      exact ⟨⟨i + 1, by omega, by go_num, below_drewN hb _⟩, by simp [intOf]; omega⟩
    · go_wp2_with fail
      go_ret
      exact ⟨rfl, hb⟩
end Go.Proofs.YtegiingcnhafbaaDoor
