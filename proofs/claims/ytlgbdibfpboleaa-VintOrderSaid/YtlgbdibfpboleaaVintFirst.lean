/- The example of chapter 2. -/
import Derived.Test.YtlgbdibfpboleaaVintInt
import Derived.Test.YtlgbdibfpboleaaSameBytes
namespace Go.Proofs.Ytlgbdibfpboleaa
open Go Go.RowKit Vint

set_option maxRecDepth 100000 in
set_option maxHeartbeats 400000 in
theorem vintFirst_calls (w : World) :
    Calls Try.prog 6 #[] w (fun e w' => e = .returned (.bool true) ∧ Below w.heap.size w w') := by
  go_enter Try.func6, Try.ntmps6
  go_wp2_with fail
  refine (put_calls _ 0 [] 300 w (Rd.nil _ _) (by omega) (by unfold U64; omega)).mono ?_
  rintro e w1 ⟨v1, rfl, ho1, hb1⟩
  rw [putL_300] at ho1
  have r1 : Rd (w1.alloc (.cells #[.int .u8 172, .int .u8 2] 5)) 1 v1 2 (bvs [172, 2]) := (Rd.of_owns ho1).below (below_alloc _ _)
  have r2 : Rd (w1.alloc (.cells #[.int .u8 172, .int .u8 2] 5)) 1 (.slice (some ⟨w1.heap.size, 0, none⟩) 2 2) 2 (bvs [172, 2]) := Rd.new w1 #[.int .u8 172, .int .u8 2] _ 1 2 rfl (by decide)
  clear ho1
  go_wp2_with fail
  refine (sameBytes_calls _ _ [172, 2] [172, 2] _ r1 r2).mono ?_
  rintro e w2 ⟨rfl, nq, rfl⟩
  go_wp2_with fail
  go_ret
  exact ⟨rfl, below_drewN (hb1.alloc hb1.size _) _⟩

set_option maxRecDepth 100000 in
set_option maxHeartbeats 400000 in
theorem vintOrder_walk (u v : Nat) (n : Int) (w : World) (hu : U64 u) (hv : U64 v) (hn : I64 n) :
    Calls Try.prog 3 #[.int .u64 u, .int .u64 v, .int .i64 n] w (fun e w' => e = .returned (.bool true) ∧ Below w.heap.size w w') := by
  have hwrap : wrap64 (-1 - n) = -1 - n := by have := hn.out; unfold wrap64; omega
  have HW := Lib.hid hwrap
  clear hwrap
  have hn' : I64 (-1 - n) := by have := hn.out; constructor <;> omega
  have L0 := Lib.hid (show (putL 0).length = 1 by rw [putL_low (by omega)]; rfl)
  have hlike : (((putL (fold n)).length : Int) == ((putL (fold (-1 - n))).length : Int)) = true := by rw [fold_like n]; simp
  by_cases h : v < u
  · have hle := putL_mono v u (by omega)
    have h10 := putL_len10 u hu
    have M11 := Lib.hid (show ((putL u).length : Int) % 11 = ((putL u).length : Int) by omega)
    go_enter Try.func3, Try.ntmps3
    go_wp2_with (go_at_call 6; refine (vintFirst_calls _).mono ?_; rintro e w1 ⟨rfl, hb1⟩)
    refine (putInt_calls _ 0 [] n _ (Rd.nil _ _) (by omega) hn).mono ?_
    rintro e w2 ⟨v2, rfl, ho2, hb2⟩
    obtain ⟨a2, c2, rfl⟩ := owns_slice ho2
    go_wp2_with fail
    rw [HW.out]
    refine (putInt_calls _ 0 [] (-1 - n) _ (Rd.nil _ _) (by omega) hn').mono ?_
    rintro e w3 ⟨v3, rfl, ho3, hb3⟩
    obtain ⟨a3, c3, rfl⟩ := owns_slice ho3
    clear ho2 ho3
    go_wp2_with fail
    refine (size_calls v _ hv).mono ?_
    rintro e w4 ⟨rfl, hb4⟩
    go_wp2_with fail
    refine (size_calls u _ hu).mono ?_
    rintro e w5 ⟨rfl, hb5⟩
    go_wp2_with fail
    refine (size_calls u _ hu).mono ?_
    rintro e w6 ⟨rfl, hb6⟩
    go_wp2_with fail
    refine (size_calls 0 _ (by unfold U64; omega)).mono ?_
    rintro e w7 ⟨rfl, hb7⟩
    rw [L0.out]
    go_wp2_with fail
    refine (put_calls _ 0 [] u _ (Rd.nil _ _) (by omega) hu).mono ?_
    rintro e w8 ⟨v8, rfl, ho8, hb8⟩
    obtain ⟨a8, c8, rfl⟩ := owns_slice ho8
    clear ho8
    go_wp2_with fail
    refine (number_calls _ 11 _ (by omega) (by omega)).mono ?_
    rintro e w9 ⟨rfl, rfl⟩
    rw [M11.out]
    go_wp2_with fail
    refine (size_calls u _ hu).mono ?_
    rintro e w9 ⟨rfl, hb9⟩
    go_wp2_with fail
    go_ret
    exact ⟨rfl, nxt (nxt (nxt (nxt (nxt (nxt (nxt (nxt hb1 hb2) hb3) hb4) hb5) hb6) hb7) hb8) hb9⟩
  · have hle := putL_mono u v (by omega)
    have h10 := putL_len10 v hv
    have M11 := Lib.hid (show ((putL v).length : Int) % 11 = ((putL v).length : Int) by omega)
    go_enter Try.func3, Try.ntmps3
    go_wp2_with (go_at_call 6; refine (vintFirst_calls _).mono ?_; rintro e w1 ⟨rfl, hb1⟩)
    refine (putInt_calls _ 0 [] n _ (Rd.nil _ _) (by omega) hn).mono ?_
    rintro e w2 ⟨v2, rfl, ho2, hb2⟩
    obtain ⟨a2, c2, rfl⟩ := owns_slice ho2
    go_wp2_with fail
    rw [HW.out]
    refine (putInt_calls _ 0 [] (-1 - n) _ (Rd.nil _ _) (by omega) hn').mono ?_
    rintro e w3 ⟨v3, rfl, ho3, hb3⟩
    obtain ⟨a3, c3, rfl⟩ := owns_slice ho3
    clear ho2 ho3
    go_wp2_with fail
    refine (size_calls u _ hu).mono ?_
    rintro e w4 ⟨rfl, hb4⟩
    go_wp2_with fail
    refine (size_calls v _ hv).mono ?_
    rintro e w5 ⟨rfl, hb5⟩
    go_wp2_with fail
    refine (size_calls v _ hv).mono ?_
    rintro e w6 ⟨rfl, hb6⟩
    go_wp2_with fail
    refine (size_calls 0 _ (by unfold U64; omega)).mono ?_
    rintro e w7 ⟨rfl, hb7⟩
    rw [L0.out]
    go_wp2_with fail
    refine (put_calls _ 0 [] v _ (Rd.nil _ _) (by omega) hv).mono ?_
    rintro e w8 ⟨v8, rfl, ho8, hb8⟩
    obtain ⟨a8, c8, rfl⟩ := owns_slice ho8
    clear ho8
    go_wp2_with fail
    refine (number_calls _ 11 _ (by omega) (by omega)).mono ?_
    rintro e w9 ⟨rfl, rfl⟩
    rw [M11.out]
    go_wp2_with fail
    refine (size_calls v _ hv).mono ?_
    rintro e w9 ⟨rfl, hb9⟩
    go_wp2_with fail
    go_ret
    exact ⟨rfl, nxt (nxt (nxt (nxt (nxt (nxt (nxt (nxt hb1 hb2) hb3) hb4) hb5) hb6) hb7) hb8) hb9⟩
end Go.Proofs.Ytlgbdibfpboleaa
