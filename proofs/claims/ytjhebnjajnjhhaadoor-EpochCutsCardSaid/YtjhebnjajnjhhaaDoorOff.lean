/- A slice value that does not lead into a block that has turned. No program, no Go function is named here. -/
import Derived.Test.YtjhebnjajnjhhaaDoorTouch
namespace Go.Proofs.YtjhebnjajnjhhaaDoor
open Go Go.RowKit

/-- A slice value that does not lead into block g. -/
def OffV (g : Nat) (v : Value) : Prop := ∀ x n c, v = .slice (some x) n c → 0 < n → x.block ≠ g

theorem Rd.touch {w w' : World} {sz n g : Nat} {v : Value} {xs : List Value} (h : Rd w sz v n xs) (t : Touch g w w') (o : OffV g v) : Rd w' sz v n xs := by
  refine ⟨h.1, ?_⟩
  rcases h.2 with hn | ⟨x, cap, rfl, hc, hm, hx⟩
  · exact .inl hn
  · refine .inr ⟨x, cap, rfl, hc, hm, fun j u hu => ?_⟩
    have h1 := hx j u hu
    have hb : (x.add j).block = x.block := by obtain ⟨b, off, sp⟩ := x; unfold Addr.add; split <;> rfl
    have hn : 0 < n := by
      rcases Nat.eq_zero_or_pos n with h0 | h0
      · have h2 := (List.getElem?_eq_some_iff.1 hu).1
        rw [h.1, h0] at h2; omega
      · exact h0
    rw [World.cell?_of_block (t.block (World.block_lt_of_cell? w _ h1) (by rw [hb]; exact o _ _ _ rfl hn))]; exact h1

theorem OffV.of_rd {w : World} {sz n g : Nat} {v : Value} {xs : List Value} (h : Rd w sz v n xs) (hs : 0 < sz) (hg : w.heap.size ≤ g) : OffV g v := by
  intro x m c e hm
  rcases h.2 with ⟨rfl, _⟩ | ⟨y, cap, rfl, hc, _, hx⟩
  · simp at e
  · simp only [Value.slice.injEq, Option.some.injEq] at e
    obtain ⟨rfl, rfl, rfl⟩ := e
    have hl : 0 < xs.length := by rw [h.1]; exact Nat.mul_pos hm hs
    have h0 := hx 0 xs[0] (List.getElem?_eq_getElem hl)
    have h1 := World.block_lt_of_cell? w _ h0
    have hb : (y.add 0).block = y.block := by unfold Addr.add; split <;> rfl
    rw [hb] at h1
    omega

end Go.Proofs.YtjhebnjajnjhhaaDoor
