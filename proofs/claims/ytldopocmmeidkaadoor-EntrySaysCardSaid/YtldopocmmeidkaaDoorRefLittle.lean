/- The document's numbers of so many bytes. -/
import Derived.Test.YtldopocmmeidkaaDoorAppend
import Derived.Test.YtldopocmmeidkaaDoorRefFixed
namespace Go.Proofs.YtldopocmmeidkaaDoor
open Go Go.RowKit Vint

set_option maxRecDepth 100000 in
set_option maxHeartbeats 1000000 in
theorem refLittle_calls (n k0 : Nat) (w : World) (hk0 : k0 ≤ 8) :
    Calls Tryd.prog 71 #[.int .u64 (n : Int), .int .i64 (k0 : Int)] w (NewRow 5 1 k0 (bvs (lit n k0)) w) := by
  obtain ⟨i0, hi, hz0, hz1, hz2⟩ := info_parts info_u8
  go_enter Tryd.func71, Tryd.ntmps71
  go_wp2_with fail
  go_loopw [5, 6] (fun ov iv wr => ∃ k : Nat, k ≤ k0 ∧ iv = .int .i64 k ∧ wr.ownsRow w.heap.size 5 1 ov k (bvs (lit n k)) ∧ Below w.heap.size w wr) (fun _ iv _ => k0 - (intOf iv).toNat)
  case atStart => exact ⟨0, Nat.zero_le _, rfl, World.ownsRow_nil w _ _ _, Below.refl _ _⟩
  case round =>
    obtain ⟨k, hk, rfl, hown, hb⟩ := hrel
    by_cases hlt : k < k0
    · go_wp2_with (at_builtin; (refine wpList_append_rd rfl _ _ 30 rfl w.heap.size 5 i0 (.int .u8 0) 1 1 Tryd.underlying30 hi hz0 hz1 hz2 rfl (by decide) _ k (bvs (lit n k)) rfl (hown.alloc _) _ _ _ rfl (Rd.new wr _ _ 1 1 (by rfl) (by decide)) ?c2 ?c3 ?c4 ?c5 ?_))
      case c2 => first | rfl | (simp [Value.oneCell'])
      case c3 => unfold maxLen; omega
      case c4 => omega
      case c5 => have := hb.size; simp; omega
      intro v' w' hown' Tr
      have e1 : (n : Int) / 2 ^ (8 * k) % 256 = ((UInt8.ofNat (n / 256 ^ k)).toNat : Int) := by
        rw [UInt8.toNat_ofNat', show (256 : Nat) ^ k = 2 ^ (8 * k) by rw [Nat.pow_mul]]
        push_cast
        rfl
      rw [e1, show bvs (lit n k) ++ [Value.int .u8 ((UInt8.ofNat (n / 256 ^ k)).toNat : Int)] = bvs (lit n (k + 1)) by rw [lit_snoc]; simp [bvs, bv]] at hown'
      have hb' : Below w.heap.size w w' := Tr w (bAlloc hb _) (Nat.le_refl _)
      clear Tr
      go_wp2_with fail
      exact ⟨⟨k + 1, by omega, by go_num, hown', hb'⟩, by simp [intOf]; omega⟩
    · obtain rfl : k = k0 := by omega
      go_wp2_with fail
      go_ret
      exact ⟨_, rfl, hown, hb⟩

end Go.Proofs.YtldopocmmeidkaaDoor
