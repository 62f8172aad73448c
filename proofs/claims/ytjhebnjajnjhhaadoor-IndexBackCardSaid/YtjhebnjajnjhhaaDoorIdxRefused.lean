/- index.Add: what may not be added is refused. -/
import Derived.Test.YtjhebnjajnjhhaaDoorIdxAsk
import Derived.Test.YtjhebnjajnjhhaaDoorIdxAddBase
namespace Go.Proofs.YtjhebnjajnjhhaaDoor
open Go Go.RowKit Idx

set_option maxRecDepth 100000 in
set_option maxHeartbeats 1000000 in
theorem idxAdd_refused (S : List Nat) (A : Nat → Addr) {w : World} (hS : Sents S w A) (h4 : 4 ∈ S) {F : Nat → Prop} {g : Nat} {x : Ix} (h : IdxAt w F g x) (m : Mk) (size : Int) (hno : Idx.may x m size = false) (hl2 : x.adds.length ≤ 1000000) :
    Calls Tryd.prog 19 #[.pointer (some ⟨g, 0, none⟩), .int .i64 m.off, .int .i64 m.time, .int .i64 m.pos, .int .i64 size] w (fun e w' => e = .returned (senV A 4) ∧ Below w.heap.size w w') := by
  cases hr : Idx.right m with
  | false => exact idxAdd_wrong S A hS h4 g m size hr
  | true =>
    obtain ⟨vm, va, h⟩ := h
    have b1 := below_alloc w (.cells #[.int .i64 m.off, .int .i64 m.time, .int .i64 m.pos] 34)
    have hc := (idxRight_calls m (w.alloc (.cells #[.int .i64 m.off, .int .i64 m.time, .int .i64 m.pos] 34)))
    rw [hr] at hc
    have g4 : ∀ w', Below w.heap.size w w' → w'.cell? ⟨0, 0, none⟩ = some (.iface 172 (.pointer (some (A 4)))) := fun w' b => (hS.below b).cell 4 h4
    by_cases hs : size < 1
    · have hs' : decide (size < 1) = true := decide_eq_true hs
      clear hr hno
      go_enter Tryd.func19, Tryd.ntmps19
      go_wp2_with fail
      refine hc.mono ?_
      rintro e w2 ⟨rfl, b2⟩
      have k4 := g4 _ (nxt b1 b2)
      go_wp2_with fail
      go_ret
      exact ⟨rfl, nxt b1 b2⟩
    · have hs' : decide (size < 1) = false := decide_eq_false hs
      have hne : 0 < x.adds.length := by
        rcases Nat.eq_zero_or_pos x.adds.length with hz | hz
        · have := List.eq_nil_of_length_eq_zero hz
          unfold Idx.may at hno
          rw [this, hr] at hno
          simp at hno
          omega
        · exact hz
      obtain ⟨na, hna⟩ : ∃ na, na = x.adds.length := ⟨_, rfl⟩
      have hoa := h.adds
      rw [← hna] at hoa hl2
      obtain ⟨aa, ca, rfl⟩ := owns_slice hoa
      obtain ⟨k, hk⟩ : ∃ k, na = k + 1 := ⟨na - 1, by omega⟩
      obtain ⟨b, rfl, hca, y, hy, q1, q2⟩ := last_add hoa hna.symm k hk
      have hly : ¬ (y.1 < m.off ∧ y.2 < m.pos) := by
        intro hlt
        unfold Idx.may at hno
        rw [hy, hr] at hno
        simp at hno
        exact absurd (hno (by omega) hlt.1) (by omega)
      have hrow := h.row
      subst hk
      clear hna hy hno hne hoa hr
      by_cases h1 : m.off ≤ y.1
      case' pos => have h1' : decide (m.off ≤ y.1) = true := decide_eq_true h1
      case' neg =>
        have h1' : decide (m.off ≤ y.1) = false := decide_eq_false h1
        have h2' : decide (m.pos ≤ y.2) = true := decide_eq_true (by omega)
      all_goals
        go_enter Tryd.func19, Tryd.ntmps19
        go_wp2_with fail
        refine hc.mono ?_
        rintro e w2 ⟨rfl, b2⟩
        have k4 := g4 _ (nxt b1 b2)
        have c2 : w2.cell? ⟨g, 2, none⟩ = some (.slice (some ⟨b, 0, none⟩) (k + 1) ca) := cell_of_row w2 g 2 _ _ _ (heap_below b2 (heap_below b1 hrow))
        have q1' : w2.cell? ⟨b, k * 3, none⟩ = some (.int .i64 y.1) := by rw [b2.cell (Nat.lt_of_lt_of_le (World.block_lt_of_cell? _ _ q1) b1.size), b1.cell (World.block_lt_of_cell? _ _ q1)]; exact q1
        have q2' : w2.cell? ⟨b, k * 3 + 2, none⟩ = some (.int .i64 y.2) := by rw [b2.cell (Nat.lt_of_lt_of_le (World.block_lt_of_cell? _ _ q2) b1.size), b1.cell (World.block_lt_of_cell? _ _ q2)]; exact q2
        go_wp2_with fail
        go_ret
        exact ⟨rfl, nxt b1 b2⟩
end Go.Proofs.YtjhebnjajnjhhaaDoor
