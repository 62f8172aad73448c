/- Line.Clone: a lineage of its own. -/
import Derived.Test.YtdlcpcpcojpecaaDoorEpoAsk
namespace Go.Proofs.YtdlcpcpcojpecaaDoor
open Go Go.RowKit Epo

def ClonePost (l : List Pr) (w : World) (e : Ending) (w' : World) : Prop :=
  (∃ F g, e = .returned (.pointer (some ⟨g, 0, none⟩)) ∧ LineAt w' F g l ∧ ∀ k, F k → w.heap.size ≤ k) ∧ Below w.heap.size w w'

set_option maxRecDepth 100000 in
set_option maxHeartbeats 400000 in
theorem lclone_calls {w : World} {F : Nat → Prop} {g : Nat} {l : List Pr} (h : LineAt w F g l) (hl : l.length ≤ 1000000) :
    Calls Tryd.prog 9 #[.pointer (some ⟨g, 0, none⟩)] w (ClonePost l w) := by
  obtain ⟨v, h⟩ := h
  have hom := Rd.of_owns h.pairs
  have hrow := h.row
  obtain ⟨am, cm, rfl⟩ := hom.slice
  have k1 : w.cell? ⟨g, 0, none⟩ = some (.slice am l.length cm) := cell_of_row w g 0 _ _ _ hrow
  have hcl := clone_pairs _ _ _ w hom (prV_one l) (by omega)
  clear h hrow
  go_enter Tryd.func9, Tryd.ntmps9
  go_wp2_with fail
  refine hcl.mono ?_
  rintro e w2 ⟨v2, rfl, o2, b2⟩
  have h5 := owns_below o2 (below_alloc w2 (.cells #[v2] 52))
  have hr := heap_alloc_new w2 (.cells #[v2] 52)
  have hge := owns_ge o2
  have hlt2 := owns_lt o2
  obtain ⟨a2, c2, rfl⟩ := owns_slice o2
  go_wp2_with fail
  go_ret
  unfold ClonePost
  refine ⟨⟨fun k => k = w2.heap.size ∨ (Value.slice a2 l.length c2).ownBlock = some k, w2.heap.size, rfl, ⟨_, .inl rfl, ?_, hr, owns_zero h5, fun k hk => .inr hk⟩, ?_⟩, nxt b2 (below_alloc _ _)⟩
  · rintro k (rfl | hk)
    · simp
    · have := hlt2 k hk; simp; omega
  · rintro k (rfl | hk)
    · exact b2.size
    · exact hge k hk
end Go.Proofs.YtdlcpcpcojpecaaDoor
