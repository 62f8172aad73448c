/- Chapter 6's examples. -/
import Derived.Test.YtjhebnjajnjhhaaDoorIdxAdd
import Derived.Test.YtjhebnjajnjhhaaDoorIdxAsk
namespace Go.Proofs.YtjhebnjajnjhhaaDoor
open Go Go.RowKit Idx

/-- What one addition leaves, as a caller in whose own memory the index lies wants it. -/
theorem AddPost.go {F : Nat → Prop} {g : Nat} {x' : Ix} {w w' : World} {e : Ending} (h : AddPost F g x' w e w') : e = .returned .nilIface ∧ ∃ F', IdxAt w' F' g x' ∧ (∀ k, F' k → F k ∨ w.heap.size ≤ k) ∧ Frame F w w' := h

def ex1 : Ix := Idx.add (Idx.new 100) ⟨0, 0, 0⟩
def ex2 : Ix := Idx.add ex1 ⟨1, 0, 60⟩
def ex3 : Ix := Idx.add ex2 ⟨2, 0, 120⟩

set_option maxRecDepth 100000 in
set_option maxHeartbeats 1000000 in
theorem idxFirst_calls (w : World) :
    Calls Tryd.prog 16 #[] w (fun e w' => e = .returned (.bool true) ∧ Below w.heap.size w w') := by
  go_enter Tryd.func16, Tryd.ntmps16
  go_wp2_with fail
  refine (newIdx_calls 100 w (by omega) (by omega)).mono ?_
  rintro e w1 ⟨rfl, i1, b1⟩
  go_wp2_with fail
  refine (idxAdd_calls i1 ⟨0, 0, 0⟩ 60 (by decide) (by decide) (by decide) (by decide)).mono ?_
  rintro e w2 h2
  obtain ⟨rfl, F2, i2, s2, f2⟩ := h2.go
  have B2 : Below w.heap.size w w2 := f2.below b1 (by rintro k rfl; exact Nat.le_refl _) b1.size
  have G2 : ∀ k, F2 k → w.heap.size ≤ k := fun k hk => by
    rcases s2 k hk with h | h
    · omega
    · exact Nat.le_trans b1.size h
  go_wp2_with fail
  refine (idxAdd_calls i2 ⟨1, 0, 60⟩ 60 (by decide) (by decide) (by decide) (by decide)).mono ?_
  rintro e w3 h3
  obtain ⟨rfl, F3, i3, s3, f3⟩ := h3.go
  have B3 : Below w.heap.size w w3 := f3.below B2 G2 B2.size
  have G3 : ∀ k, F3 k → w.heap.size ≤ k := fun k hk => by
    rcases s3 k hk with h | h
    · exact G2 k h
    · exact Nat.le_trans B2.size h
  go_wp2_with fail
  refine (idxAdd_calls i3 ⟨2, 0, 120⟩ 60 (by decide) (by decide) (by decide) (by decide)).mono ?_
  rintro e w4 h4
  obtain ⟨rfl, F4, i4, s4, f4⟩ := h4.go
  have B4 : Below w.heap.size w w4 := f4.below B3 G3 B3.size
  have hm : (Idx.add (Idx.add (Idx.add (Idx.new 100) ⟨0, 0, 0⟩) ⟨1, 0, 60⟩) ⟨2, 0, 120⟩).marks = [⟨0, 0, 0⟩, ⟨2, 0, 120⟩] := by decide
  have hmk := marks_calls i4 (by rw [hm]; decide)
  rw [hm] at hmk
  clear hm
  go_wp2_with fail
  refine hmk.mono ?_
  rintro e w5 ⟨v5, rfl, o5, b5⟩
  change w5.ownsRow _ _ 3 v5 2 _ at o5
  obtain ⟨a5, c5, rfl⟩ := owns_slice o5
  obtain ⟨b, rfl, _⟩ := owns_at o5 (by omega)
  obtain ⟨b', o, he, hc, _, hx⟩ := (Rd.of_owns o5).at (by omega)
  simp only [Option.some.injEq, Addr.mk.injEq] at he
  obtain ⟨rfl, rfl, _⟩ := he
  have q0 : w5.cell? ⟨b, 2, none⟩ = some (.int .i64 0) := hx 2 _ rfl
  have q1 : w5.cell? ⟨b, 5, none⟩ = some (.int .i64 120) := hx 5 _ rfl
  clear hx
  go_wp2_with fail
  go_ret
  exact ⟨rfl, nxt B4 b5⟩
end Go.Proofs.YtjhebnjajnjhhaaDoor
