/- slices.Equal over bytes: the same bytes? -/
import Derived.Test.YtegiingcnhafbaaGreatDoorSlices
namespace Go.Proofs.YtegiingcnhafbaaGreatDoor
open Go Go.RowKit

set_option maxRecDepth 100000 in
set_option maxHeartbeats 400000 in
theorem equal_calls (va vb : Value) (l1 l2 : List UInt8) (w : World) (h1 : Rd w 1 va l1.length (bvs l1)) (h2 : Rd w 1 vb l2.length (bvs l2)) :
    Calls Tryz.prog 59 #[va, vb] w (fun e w' => e = .returned (.bool (l1 == l2)) ∧ ∃ nq, w' = w.drewN nq) := by
  obtain ⟨a1, c1, rfl⟩ := h1.slice
  obtain ⟨a2, c2, rfl⟩ := h2.slice
  have m1 := h1.len_le
  have m2 := h2.len_le
  by_cases hl : l1.length = l2.length
  · have hl' : ((l1.length : Int) != (l2.length : Int)) = false := by rw [hl]; simp
    have HL := Lib.hid hl
    clear hl
    go_enter Tryz.func59, Tryz.ntmps59
    go_wp2_with fail
    go_loopw [13] (fun iv wr => ∃ k : Nat, k ≤ l1.length ∧ iv = .int .i64 k ∧ l1.take k = l2.take k ∧ ∃ nq, wr = w.drewN nq) (fun iv _ => l1.length - (intOf iv).toNat)
    case atStart => exact ⟨0, Nat.zero_le _, rfl, rfl, 0, rfl⟩
    case round =>
      obtain ⟨k, hk, rfl, hs, nq, rfl⟩ := hrel
      have HS := Lib.hid hs
      clear hs
      by_cases hlt : k < l1.length
      · have hlt2 : k < l2.length := by have := HL.out; omega
        obtain ⟨b1, o1, rfl, hc1, hm1, hx1⟩ := h1.at (by omega)
        obtain ⟨b2, o2, rfl, hc2, hm2, hx2⟩ := h2.at (by omega)
        have g1 := hx1 k _ (bvs_at l1 k hlt)
        have g2 := hx2 k _ (bvs_at l2 k hlt2)
        clear hx1 hx2 h1 h2 hc1 hc2 hm1 hm2
        by_cases he : l1[k].toNat = l2[k].toNat
        · have he' : (((l1[k].toNat : Nat) : Int) != ((l2[k].toNat : Nat) : Int)) = false := by rw [he]; simp
          have HE := Lib.hid he
          clear he
          go_wp2_with fail
          go_quiet (fail)
          go_wp2_with fail
          exact ⟨⟨k + 1, by omega, by go_num, take_next hlt hlt2 HS.out (UInt8.toNat_inj.1 HE.out), _, rfl⟩, by simp [intOf]; omega⟩
        · have he' : (((l1[k].toNat : Nat) : Int) != ((l2[k].toNat : Nat) : Int)) = true := by rw [bne_iff_ne]; omega
          go_wp2_with fail
          go_quiet (fail)
          go_wp2_with fail
          go_ret
          refine ⟨?_, _, World.drewN_drewN _ _ _⟩
          have : (l1 == l2) = false := by
            rw [beq_eq_false_iff_ne]; intro e; subst e; exact he rfl
          rw [this]; rfl
      · go_wp2_with fail
        go_ret
        refine ⟨?_, _, rfl⟩
        have hs := HS.out
        rw [List.take_of_length_le (by omega), List.take_of_length_le (by have := HL.out; omega)] at hs
        have : (l1 == l2) = true := by rw [hs]; simp
        rw [this]; rfl
  · have hl' : ((l1.length : Int) != (l2.length : Int)) = true := by rw [bne_iff_ne]; omega
    go_enter Tryz.func59, Tryz.ntmps59
    go_wp2_with fail
    go_ret
    refine ⟨?_, 0, rfl⟩
    have : (l1 == l2) = false := by
      rw [beq_eq_false_iff_ne]; intro e; rw [e] at hl; exact hl rfl
    rw [this]; rfl
end Go.Proofs.YtegiingcnhafbaaGreatDoor
