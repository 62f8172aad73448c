/- The last pair of a lineage; a lineage that has turned. -/
import Derived.Test.YtdlcpcpcojpecaaDoorEpoAsk
import Derived.StillTailTactics
import Derived.Deep.RegionLaw
import Derived.Deep.DeepCutAuto
namespace Go.Proofs.YtdlcpcpcojpecaaDoor
open Go Go.RowKit Epo

def LastPost (l : List Pr) (w : World) (e : Ending) (w' : World) : Prop :=
  e = .returned (.tuple #[.agg #[.int .i64 (l.getLast?.getD ⟨0, 0⟩).ep, .int .i64 (l.getLast?.getD ⟨0, 0⟩).st], .bool (decide (l ≠ []))]) ∧ Below w.heap.size w w'

set_option maxRecDepth 100000 in
set_option maxHeartbeats 1000000 in
theorem last_calls {w : World} {F : Nat → Prop} {g : Nat} {l : List Pr} (h : LineAt w F g l) :
    Calls Tryd.prog 28 #[.pointer (some ⟨g, 0, none⟩)] w (LastPost l w) := by
  obtain ⟨v, h⟩ := h
  have hom := Rd.of_owns h.pairs
  have hrow := h.row
  obtain ⟨am, cm, rfl⟩ := hom.slice
  have m1 := hom.len_le
  have b1 := below_alloc w (.cells #[.int .i64 0, .int .i64 0] 46)
  have k1 : (w.alloc (.cells #[.int .i64 0, .int .i64 0] 46)).cell? ⟨g, 0, none⟩ = some (.slice am l.length cm) := cell_of_row _ g 0 _ _ _ (heap_below b1 hrow)
  have rowW := heap_alloc_new w (.cells #[.int .i64 0, .int .i64 0] 46)
  have c0 : (w.alloc (.cells #[.int .i64 0, .int .i64 0] 46)).cell? ⟨w.heap.size, 0, none⟩ = some (.int .i64 0) := cell_of_row _ _ 0 _ _ _ rowW
  have c1 : (w.alloc (.cells #[.int .i64 0, .int .i64 0] 46)).cell? ⟨w.heap.size, 1, none⟩ = some (.int .i64 0) := cell_of_row _ _ 1 _ _ _ rowW
  have z0 := frozen_of_row _ _ 0 _ _ rowW
  have z1 := frozen_of_row _ _ 1 _ _ rowW
  clear h
  rcases Nat.eq_zero_or_pos l.length with hz | hz
  · obtain rfl := List.eq_nil_of_length_eq_zero hz
    simp only [List.length_nil] at k1
    go_enter Tryd.func28, Tryd.ntmps28
    go_wp2_with fail
    refine bodyPost_ret (v := .tuple #[.agg #[.int .i64 0, .int .i64 0], .bool false]) (by simp [results, go_sem, c0, c1]) rfl ?_
    unfold LastPost
    exact ⟨rfl, b1⟩
  · obtain ⟨k, hk⟩ : ∃ k, l.length = k + 1 := ⟨l.length - 1, by omega⟩
    obtain ⟨b, o, rfl, hc1, hm1, hx1⟩ := (hom.below b1).at (by omega) (by omega)
    obtain ⟨q0, q1⟩ := pr_cells hx1 k (by omega)
    rw [hk] at k1 hc1
    have hs1 : IntKind.i64.wrap ((k : Int) + 1 - 1) = (k : Int) := by rw [IntKind.wrap_i64]; omega
    have hkk : (k : Int) < (k : Int) + 1 := by omega
    have hs2 : IntKind.i64.wrap (k : Int) = (k : Int) := by rw [IntKind.wrap_i64]; omega
    have hkl : k < l.length := by omega
    have hgl : l.getLast? = some (l[k]'hkl) := by rw [List.getLast?_eq_getElem?, hk]; simp [hkl]
    have hne : l ≠ [] := by rintro rfl; simp at hz
    have HGL := Lib.hid hgl
    have HNE := Lib.hid hne
    clear hx1 hgl hne
    generalize l[k]'hkl = m at *
    go_enter Tryd.func28, Tryd.ntmps28
    go_wp2_with fail
    generalize w.alloc (.cells #[.int .i64 0, .int .i64 0] 46) = W at *
    go_still_tail 12, (by kernel_rfl)
    change wpList _ _ _ _ _ W.drew
    go_wp2_with fail
    have row2 := heap_setCell_same (W.setCell ⟨w.heap.size, 0, none⟩ (.int .i64 m.ep)) w.heap.size 1 _ _ (.int .i64 m.st) (heap_setCell_same W w.heap.size 0 _ _ (.int .i64 m.ep) rowW)
    have d0 : (((W.setCell ⟨w.heap.size, 0, none⟩ (.int .i64 m.ep)).setCell ⟨w.heap.size, 1, none⟩ (.int .i64 m.st)).drew).cell? ⟨w.heap.size, 0, none⟩ = some (.int .i64 m.ep) := cell_of_row _ _ 0 _ _ _ row2
    have d1 : (((W.setCell ⟨w.heap.size, 0, none⟩ (.int .i64 m.ep)).setCell ⟨w.heap.size, 1, none⟩ (.int .i64 m.st)).drew).cell? ⟨w.heap.size, 1, none⟩ = some (.int .i64 m.st) := cell_of_row _ _ 1 _ _ _ row2
    have b2 : Below w.heap.size w (((W.setCell ⟨w.heap.size, 0, none⟩ (.int .i64 m.ep)).setCell ⟨w.heap.size, 1, none⟩ (.int .i64 m.st)).drew) := ((b1.setCell (Nat.le_refl _) _).setCell (Nat.le_refl _) _).drew
    generalize ((W.setCell ⟨w.heap.size, 0, none⟩ (.int .i64 m.ep)).setCell ⟨w.heap.size, 1, none⟩ (.int .i64 m.st)).drew = W9 at *
    refine bodyPost_ret (v := .tuple #[.agg #[.int .i64 m.ep, .int .i64 m.st], .bool true]) (by simp [results, go_sem, d0, d1]) rfl ?_
    unfold LastPost
    rw [HGL.out, decide_eq_true HNE.out]
    exact ⟨rfl, b2⟩
end Go.Proofs.YtdlcpcpcojpecaaDoor
