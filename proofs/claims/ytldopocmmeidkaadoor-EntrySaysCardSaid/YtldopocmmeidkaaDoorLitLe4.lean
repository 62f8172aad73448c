/- A sum as four bytes. -/
import Derived.Test.YtldopocmmeidkaaDoorRefFixed
import Derived.Test.YtldopocmmeidkaaDoorCrcOpen
namespace Go.Proofs.YtldopocmmeidkaaDoor
open Go Go.RowKit Vint Crc

theorem lit_le4 (x : BitVec 32) : lit x.toNat 4 = le4 x := by
  simp only [lit, le4, List.cons.injEq, and_true]
  refine ⟨?_, ?_, ?_, ?_⟩ <;> (apply UInt8.toNat_inj.1; rw [UInt8.toNat_ofNat']; show _ = BitVec.toNat _; rw [BitVec.toNat_setWidth])
  · rw [BitVec.toNat_ushiftRight, Nat.shiftRight_eq_div_pow]
  · rw [BitVec.toNat_ushiftRight, Nat.shiftRight_eq_div_pow]; omega
  · rw [BitVec.toNat_ushiftRight, Nat.shiftRight_eq_div_pow]; omega

theorem seal_little (p q : List UInt8) (h : q.length = 4) : sealed p = p ++ q ↔ little q = (sum p).toNat := by
  unfold sealed
  rw [List.append_cancel_left_eq, ← lit_le4]
  constructor
  · rintro rfl
    exact little_lit 4 _ (by have := (sum p).isLt; omega)
  · intro e
    rw [← e, ← h, lit_little]
end Go.Proofs.YtldopocmmeidkaaDoor
