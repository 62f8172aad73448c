/- 'clear(s)' on a slice of elements of several cells, and what a row of one's own is behind it. No program, no Go function is named here. -/
import Derived.Test.YtdlcpcpcojpecaaDoorBase
import Derived.Lib.SliceRun
import Derived.Laws.OwnMore
namespace Go.Proofs.YtdlcpcpcojpecaaDoor
open Go Go.RowKit

theorem zeroCells_one (z : Value) (n : Nat) (h1 : ∀ u ∈ z.cells.toList, u.oneCell' = true) : ∀ u ∈ (Builtin.zeroCells z.cells n).toList, u.oneCell' = true := by
  intro u hu
  simp only [Builtin.zeroCells, Array.toList_map, List.mem_map, Array.mem_toList_iff, Array.mem_range] at hu
  obtain ⟨i, hi, rfl⟩ := hu
  have hp : 0 < z.cells.size := by
    rcases Nat.eq_zero_or_pos z.cells.size with h | h
    · rw [h] at hi; omega
    · exact h
  have hm : i % z.cells.size < z.cells.size := Nat.mod_lt _ hp
  rw [getElem!_pos z.cells _ hm]
  exact h1 _ (by simp)

/-- 'clear(s)': the n elements' cells hold the zero value's. -/
theorem run_clear_rows {P : Program} (w : World) (t e ty : TypeId) (z : Value) (ht : P.underlying t = some (.slice e)) (hv : ∀ w, (zeroValue e).run P w = .ok z w) (h1 : ∀ u ∈ z.cells.toList, u.oneCell' = true) (b o n c : Nat) (hn : 0 < n)
    (hc : ∀ j, j < n * z.cells.size → (w.cell? ⟨b, o + j, none⟩).isSome = true) (hf : ∀ j, j < n * z.cells.size → w.frozen? ⟨b, o + j, none⟩ = false) :
    (Builtin.clear_ #[t] ty #[.slice (some ⟨b, o, none⟩) n c]).run P w = .ok (.tuple #[]) (w.setCells b o (Builtin.zeroCells z.cells n).toList) := by
  have hl : (Builtin.zeroCells z.cells n).toList.length = n * z.cells.size := by simp [Builtin.zeroCells]
  have hst := run_storeCells_cells (P := P) b o (Builtin.zeroCells z.cells n).toList 0 w (by rw [hl]; simpa using hc) (by rw [hl]; simpa using hf) (zeroCells_one z n h1)
  simp only [Nat.add_zero] at hst
  obtain ⟨m, rfl⟩ : ∃ m, n = m + 1 := ⟨n - 1, by omega⟩
  simp [Builtin.clear_, run_underlying ht, hv, hst]

/-- A row of one's own behind stores from a place on: what is ahead stays. -/
theorem owns_setCells {base e sz n cap g : Nat} : ∀ (vs : List Value) (o : Nat) (w : World) (xs : List Value), w.ownsRow base e sz (.slice (some ⟨g, 0, none⟩) n cap) n xs →
    ∃ xs', (w.setCells g o vs).ownsRow base e sz (.slice (some ⟨g, 0, none⟩) n cap) n xs' ∧ xs'.take o = xs.take o ∧ w.grownBy (w.setCells g o vs) (some g) ∧ (w.setCells g o vs).heap.size = w.heap.size := by
  intro vs
  induction vs with
  | nil => intro o w xs h; exact ⟨xs, h, rfl, ⟨rfl, rfl, rfl, Nat.le_refl _, fun _ _ _ => rfl⟩, rfl⟩
  | cons v r ih =>
    intro o w xs h
    have hs := World.ownsRow.stored h o v
    obtain ⟨xs', h1, h2, h3, h4⟩ := ih (o + 1) (w.setCell ⟨g, o, none⟩ v) (xs.set o v) hs.1
    refine ⟨xs', h1, ?_, ?_, ?_⟩
    · have h5 := congrArg (List.take o) h2
      rw [List.take_take, List.take_take, Nat.min_eq_left (by omega)] at h5
      rw [h5, List.take_set_of_le (Nat.le_refl _)]
    · have g1 := hs.2
      exact ⟨h3.os.trans g1.os, h3.tape.trans g1.tape, h3.output.trans g1.output, Nat.le_trans g1.size h3.size, fun k hk hne => (h3.block k (Nat.lt_of_lt_of_le hk g1.size) hne).trans (g1.block k hk hne)⟩
    · rw [World.setCells, h4]; simp [World.setCell]

/-- The first k elements of a row of one's own are one. -/
theorem owns_front {w : World} {base e sz n cap g : Nat} {xs : List Value} (h : w.ownsRow base e sz (.slice (some ⟨g, 0, none⟩) n cap) n xs) (k : Nat) (hk : k ≤ n) : w.ownsRow base e sz (.slice (some ⟨g, 0, none⟩) k cap) k (xs.take (k * sz)) := by
  have hl := h.1
  have hle : k * sz ≤ n * sz := Nat.mul_le_mul_right _ hk
  refine ⟨by rw [List.length_take, hl]; omega, ?_⟩
  rcases h.2 with ⟨h', _⟩ | ⟨g', cap', cur, h', hb, hg, hnc, hcm, hcs, htake⟩
  · simp at h'
  · simp only [Value.slice.injEq, Option.some.injEq, Addr.mk.injEq, and_true, true_and] at h'
    obtain ⟨rfl, rfl⟩ := h'
    exact .inr ⟨g, cap, cur, rfl, hb, hg, by omega, hcm, hcs, by rw [← htake, List.take_take, Nat.min_eq_left hle]⟩

/-- Behind 'clear(s[k:])' the first k elements are as they were. -/
theorem owns_cleared {w : World} {base e sz n cap g : Nat} {xs : List Value} (h : w.ownsRow base e sz (.slice (some ⟨g, 0, none⟩) n cap) n xs) (k : Nat) (hk : k ≤ n) (vs : List Value) :
    (w.setCells g (k * sz) vs).ownsRow base e sz (.slice (some ⟨g, 0, none⟩) k cap) k (xs.take (k * sz)) ∧ w.grownBy (w.setCells g (k * sz) vs) (some g) ∧ (w.setCells g (k * sz) vs).heap.size = w.heap.size := by
  obtain ⟨xs', h1, h2, h3, h4⟩ := owns_setCells vs (k * sz) w xs h
  refine ⟨?_, h3, h4⟩
  rw [← h2]
  exact owns_front h1 k hk
end Go.Proofs.YtdlcpcpcojpecaaDoor
