/- cordwoodworld.Batch: it answers, whatever it is. -/
import Derived.Test.YtlfbdcgojbfcaaaDoorRecValid
namespace Go.Proofs.YtlfbdcgojbfcaaaDoor
open Go Go.RowKit Rec

def BoolB (w : World) (e : Ending) (w' : World) : Prop := ∃ t : Bool, e = .returned (.bool t) ∧ Below w.heap.size w w'

set_option maxRecDepth 100000 in
set_option maxHeartbeats 2000000 in
theorem worldBatch_calls {w : World} {b : BatD} {v : Value} (h : RecsRd w v b.recs) :
    Calls Tryd.prog 26 #[batA b v] w (BoolB w) := by
  obtain ⟨a, c, rfl⟩ := h.slice
  have m1 := h.len_le
  obtain ⟨ba, ep, l⟩ := b
  simp only at h m1
  have b1 := below_alloc w (.cells #[.int .i64 ba, .int .i64 ep, .slice a l.length c] 34)
  have row1 := heap_alloc_new w (.cells #[.int .i64 ba, .int .i64 ep, .slice a l.length c] 34)
  unfold batA
  simp only
  go_enter Tryd.func26, Tryd.ntmps26
  go_upto_region 1 with fail
  obtain ⟨w1, hw1⟩ : ∃ w1, w1 = w.alloc (.cells #[.int .i64 ba, .int .i64 ep, .slice a l.length c] 34) := ⟨_, rfl⟩
  obtain ⟨g, hg⟩ : ∃ g, g = w.heap.size := ⟨_, rfl⟩
  rw [← hw1] at b1 row1 ⊢
  rw [← hg] at row1 ⊢
  clear hw1 hg
  have d2 : w1.cell? ⟨g, 2, none⟩ = some (.slice a l.length c) := cell_of_row _ _ 2 _ _ _ row1
  by_cases t1 : 70 < l.length
  · go_wp2_with fail
    go_ret
    exact ⟨_, rfl, b1⟩
  · have t1' : decide ((70 : Int) < (l.length : Int)) = false := decide_eq_false (by omega)
    clear t1
    go_wp2_with fail
    go_loopw [3] (fun iv wr => ∃ i : Nat, i ≤ l.length ∧ iv = .int .i64 i ∧ wr = w1) (fun iv _ => l.length - (intOf iv).toNat)
    case atStart => exact ⟨0, Nat.zero_le _, rfl, rfl⟩
    case round =>
      obtain ⟨i, hi, rfl, rfl⟩ := hrel
      by_cases hlt : i < l.length
      · obtain ⟨b, o, rfl, hx⟩ := (h.below b1).cells i hlt
        obtain ⟨vk, vv, p0, p1, p2, rk, rv⟩ := hx i hlt
        obtain ⟨ak, ck, rfl⟩ := rk.slice
        obtain ⟨av, cv, rfl⟩ := rv.slice
        have mk := rk.len_le
        have mv := rv.len_le
        obtain ⟨nk, hnk⟩ : ∃ t, t = l[i].key.length := ⟨_, rfl⟩
        obtain ⟨nv, hnv⟩ : ∃ t, t = l[i].val.length := ⟨_, rfl⟩
        rw [← hnk] at p1
        rw [← hnv] at p2
        clear hx rk rv hnk hnv
        by_cases q1 : 100 < nk
        · go_wp2_with fail
          go_ret
          exact ⟨_, rfl, b1⟩
        · by_cases q2 : 600 < nv
          · go_wp2_with fail
            go_ret
            exact ⟨_, rfl, b1⟩
          · go_wp2_with fail
            exact ⟨⟨i + 1, by omega, by go_num, trivial⟩, by simp [intOf]; omega⟩
      · go_wp2_with fail
        go_ret
        exact ⟨_, rfl, b1⟩
end Go.Proofs.YtlfbdcgojbfcaaaDoor
