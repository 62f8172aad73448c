/- Line.CutEnd: what begins at a place, or behind, is none. -/
import Derived.Test.YtdlcpcpcojpecaaDoorEpoDel
import Derived.Test.YtdlcpcpcojpecaaDoorEpoBegin
namespace Go.Proofs.YtdlcpcpcojpecaaDoor
open Go Go.RowKit Epo

def CutPost (F : Nat → Prop) (g : Nat) (l' : List Pr) (w : World) (e : Ending) (w' : World) : Prop :=
  e = .returned (.tuple #[]) ∧ ∃ F', LineAt w' F' g l' ∧ (∀ k, F' k → F k ∨ w.heap.size ≤ k) ∧ Frame F w w'

theorem up_behind {l : List Pr} (h : up l = true) (a : Int) : ∀ k (hk : k < l.length), a ≤ l[k].st → ∀ j (hj : j < l.length), k ≤ j → a ≤ l[j].st := by
  intro k hk ha j hj hkj
  by_cases e : k = j
  · subst e; exact ha
  · have := up_lt l h k j (by omega) hj
    omega

set_option maxRecDepth 100000 in
set_option maxHeartbeats 1000000 in
theorem cutEnd_calls {w : World} {F : Nat → Prop} {g : Nat} {l : List Pr} (h : LineAt w F g l) (hup : up l = true) (a : Int) :
    Calls Tryd.prog 13 #[.pointer (some ⟨g, 0, none⟩), .int .i64 a] w (CutPost F g (cutE a l) w) := by
  obtain ⟨v, h⟩ := h
  have b1 := below_alloc w (.cells #[.int .i64 a] 2)
  have hc : (w.alloc (.cells #[.int .i64 a] 2)).cell? ⟨w.heap.size, 0, none⟩ = some (.int .i64 a) := cell_of_row _ _ 0 _ _ _ (heap_alloc_new w _)
  have h1 := h.below b1
  have hd := delFunc_calls a w.heap.size hc h1.pairs (up_behind hup a)
  have k1 : (w.alloc (.cells #[.int .i64 a] 2)).cell? ⟨g, 0, none⟩ = some v := cell_of_row _ g 0 _ _ _ h1.row
  obtain ⟨am, cm, rfl⟩ := owns_slice h.pairs
  have H := Lib.hid h
  have H1 := Lib.hid h1
  have hlt : g < w.heap.size := h.old g h.mine
  generalize cutE a l = l' at *
  clear h h1 hup
  go_enter Tryd.func13, Tryd.ntmps13
  go_wp2_with fail
  refine hd.mono ?_
  rintro e w2 h2
  unfold DelPost at h2
  obtain ⟨v', rfl, o2, hin, f2⟩ := h2
  have row2 : w2.heap[g]? = some (.cells #[.slice am l.length cm] 52 (0, 0)) := f2.heap H1.out.row (fun e => H1.out.not_row e)
  have c2 : w2.cell? ⟨g, 0, none⟩ = some (.slice am l.length cm) := cell_of_row w2 g 0 _ _ _ row2
  have z2 := frozen_of_row w2 g 0 _ _ row2
  obtain ⟨a2, c2', rfl⟩ := owns_slice o2
  have ROW := Lib.hid row2
  have O2 := Lib.hid o2
  have F2 := Lib.hid f2
  clear hd hc k1 row2 o2 f2
  go_wp2_with fail
  go_end0
  have t := Touch.setCell (g := g) w2 0 (.slice a2 l'.length c2')
  have hsz : (w2.setCell ⟨g, 0, none⟩ (.slice a2 l'.length c2')).heap.size = w2.heap.size := by simp [World.setCell]
  have hs2 : w.heap.size ≤ w2.heap.size := Nat.le_trans b1.size F2.out.size
  have hF : ∀ k, InRow (.slice am l.length cm) k → F k := fun k hk => H.out.inP k hk
  unfold CutPost
  refine ⟨rfl, F, ⟨_, H.out.mine, fun k hk => ?_, heap_setCell_same _ g 0 _ _ _ ROW.out, t.owns O2.out ROW.out (by decide), fun k hk => hF k (hin k hk)⟩, fun _ hk => .inl hk, ?_⟩
  · rw [hsz]; exact Nat.lt_of_lt_of_le (H.out.old k hk) hs2
  · exact ((Frame.of_below b1).trans F2.out (fun k hk => .inl (hF k hk))).trans (Frame.of_touch (F := F) t H.out.mine) (fun _ e => .inl e)
end Go.Proofs.YtdlcpcpcojpecaaDoor
