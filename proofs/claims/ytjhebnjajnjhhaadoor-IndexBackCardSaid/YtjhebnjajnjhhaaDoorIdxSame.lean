/- law6's same: two rows of the same marks are the same. And what crc.Open lets through was sealed. -/
import Derived.Test.YtjhebnjajnjhhaaDoorIdx
import Derived.Test.YtjhebnjajnjhhaaDoorCrcOpen
namespace Go.Proofs.YtjhebnjajnjhhaaDoor
open Go Go.RowKit Idx

theorem openL_back {l b : List UInt8} (h : openL l = .ok b) : Crc.sealed b = l := by
  unfold openL at h
  split at h
  · cases h
  · split at h
    · rename_i h1
      simp only [OR.ok.injEq] at h
      subst h; exact h1
    · cases h

set_option maxRecDepth 100000 in
set_option maxHeartbeats 1000000 in
theorem idxSame_calls (va vb : Value) (l : List Mk) (w : World) (h1 : Rd w 3 va l.length (l.flatMap mkV)) (h2 : Rd w 3 vb l.length (l.flatMap mkV)) :
    Calls Tryd.prog 53 #[va, vb] w (fun e w' => e = .returned (.bool true) ∧ Below w.heap.size w w') := by
  obtain ⟨a1, c1, rfl⟩ := h1.slice
  obtain ⟨a2, c2, rfl⟩ := h2.slice
  have m1 := h1.len_le
  have hl' : ((l.length : Int) != (l.length : Int)) = false := by simp
  go_enter Tryd.func53, Tryd.ntmps53
  go_wp2_with fail
  go_loopw [5] (fun iv wr => ∃ k : Nat, k ≤ l.length ∧ iv = .int .i64 k ∧ Below w.heap.size w wr) (fun iv _ => l.length - (intOf iv).toNat)
  case atStart => exact ⟨0, Nat.zero_le _, rfl, Below.refl _ _⟩
  case round =>
    obtain ⟨k, hk, rfl, hb⟩ := hrel
    by_cases hlt : k < l.length
    · obtain ⟨b1, o1, rfl, hc1, hm1, hx1⟩ := (h1.below hb).at (by omega)
      obtain ⟨b2, o2, rfl, hc2, hm2, hx2⟩ := (h2.below hb).at (by omega)
      obtain ⟨p0, p1, p2⟩ := mk_cells hx1 k hlt
      obtain ⟨q0, q1, q2⟩ := mk_cells hx2 k hlt
      generalize l[k] = m at *
      have t0 : (m.off != m.off) = false := by simp
      have t1 : (m.time != m.time) = false := by simp
      have t2 : (m.pos != m.pos) = false := by simp
      clear hx1 hx2
      go_wp2_with fail
      go_quiet (fail)
      go_wp2_with fail
      exact ⟨⟨k + 1, by omega, by go_num, below_drewN hb _⟩, by simp [intOf]; omega⟩
    · go_wp2_with fail
      go_ret
      exact ⟨rfl, hb⟩
end Go.Proofs.YtjhebnjajnjhhaaDoor
