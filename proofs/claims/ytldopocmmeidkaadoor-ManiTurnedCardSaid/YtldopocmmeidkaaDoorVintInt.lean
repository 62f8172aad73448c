/- vint.PutInt. -/
import Derived.Test.YtldopocmmeidkaaDoorVintPut
namespace Go.Proofs.YtldopocmmeidkaaDoor
open Go Go.RowKit Vint

theorem fold_bits (m : Int) (h : I64 m) : bits .xor .u64 (IntKind.u64.wrap (IntKind.u64.wrap m * 2)) (IntKind.u64.wrap (m / 9223372036854775808)) = (fold m : Int) := by
  have h0 := h.out
  have w64 : ∀ n, IntKind.u64.wrap n = n % 18446744073709551616 := fun n => by simp [IntKind.wrap, IntKind.bits, IntKind.signed]
  rw [w64, w64, w64]
  unfold fold
  split
  · have e1 : m % 18446744073709551616 * 2 % 18446744073709551616 = ((2 * m.toNat : Nat) : Int) := by omega
    have e2 : m / 9223372036854775808 % 18446744073709551616 = ((0 : Nat) : Int) := by omega
    rw [e1, e2, u64_xor_nat _ _ (by omega) (by omega)]
    simp
  · have e1 : m % 18446744073709551616 * 2 % 18446744073709551616 = ((18446744073709551616 - 2 * (-m).toNat : Nat) : Int) := by omega
    have e2 : m / 9223372036854775808 % 18446744073709551616 = ((18446744073709551615 : Nat) : Int) := by omega
    rw [e1, e2, u64_xor_nat _ _ (by omega) (by omega), not64 _ (by omega)]
    omega

set_option maxRecDepth 100000 in
set_option maxHeartbeats 400000 in
theorem putInt_calls (v : Value) (n : Nat) (l : List UInt8) (m0 : Int) (w : World) (h : Rd w 1 v n (bvs l)) (hn : n ≤ 1099511627776) (hm0 : I64 m0) :
    Calls Tryd.prog 54 #[v, .int .i64 m0] w (NewRow 5 1 (n + (putL (fold m0)).length) (bvs (l ++ putL (fold m0))) w) := by
  go_enter Tryd.func54, Tryd.ntmps54
  go_wp2_with fail
  rw [fold_bits m0 hm0]
  refine (put_calls v n l (fold m0) w h hn (fold_lt _ hm0.out.1 hm0.out.2)).mono ?_
  rintro e w1 ⟨v1, rfl, ho1, hb1⟩
  go_wp2
  go_ret
  exact ⟨v1, rfl, ho1, hb1⟩

end Go.Proofs.YtldopocmmeidkaaDoor
