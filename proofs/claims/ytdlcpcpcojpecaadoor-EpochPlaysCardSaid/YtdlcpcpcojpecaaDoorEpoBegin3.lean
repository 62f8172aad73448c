/- Line.Begin at the last one's epoch: nothing turns. -/
import Derived.Test.YtdlcpcpcojpecaaDoorEpoBegin
namespace Go.Proofs.YtdlcpcpcojpecaaDoor
open Go Go.RowKit Epo

set_option maxRecDepth 100000 in
set_option maxHeartbeats 400000 in
theorem begin_same (A : Nat → Addr) {w : World} {F : Nat → Prop} {g : Nat} {l : List Pr} (h : LineAt w F g l) (st : Int) (q : Pr) (hr : Epo.right ⟨q.ep, st⟩ = true) (hgl : l.getLast? = some q) :
    Calls Tryd.prog 12 #[.pointer (some ⟨g, 0, none⟩), .int .i64 q.ep, .int .i64 st] w (BegPost A F g 0 l w) := by
  have b1 := below_alloc w (.cells #[.int .i64 q.ep, .int .i64 st] 46)
  have hrc := prRight_calls ⟨q.ep, st⟩ (w.alloc (.cells #[.int .i64 q.ep, .int .i64 st] 46))
  rw [hr] at hrc
  have hold : ∀ k, F k → k < w.heap.size := by obtain ⟨_, h⟩ := h; exact h.old
  have H := Lib.hid h
  have hlc := fun W (hW : Below w.heap.size w W) => last_calls (h.below hW)
  unfold LastPost at hlc
  have hne : l ≠ [] := by rintro rfl; simp at hgl
  rw [hgl, decide_eq_true hne] at hlc
  simp only [Option.getD_some] at hlc
  clear hr hgl h
  go_enter Tryd.func12, Tryd.ntmps12
  go_wp2_with fail
  refine hrc.mono ?_
  rintro e w2 ⟨rfl, b2⟩
  go_wp2_with fail
  refine (hlc _ (nxt b1 b2)).mono ?_
  rintro e w3 ⟨rfl, b3⟩
  have B3 := nxt (nxt b1 b2) b3
  have b4 := below_alloc w3 (.cells #[.int .i64 q.ep, .int .i64 q.st] 46)
  have B4 := nxt B3 b4
  clear hrc hlc b1 b2 b3
  go_wp2_with fail
  go_ret
  unfold BegPost
  exact ⟨rfl, F, H.out.below B4, fun _ hk => .inl hk, Frame.of_below B4⟩

end Go.Proofs.YtdlcpcpcojpecaaDoor
