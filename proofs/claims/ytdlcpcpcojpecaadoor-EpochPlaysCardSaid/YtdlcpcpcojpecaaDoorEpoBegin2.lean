/- Line.Begin: an elder epoch is refused; the same one is there; one that has nothing of its own gives way. -/
import Derived.Test.YtdlcpcpcojpecaaDoorEpoBegin
namespace Go.Proofs.YtdlcpcpcojpecaaDoor
open Go Go.RowKit Epo

set_option maxRecDepth 100000 in
set_option maxHeartbeats 4000000 in
theorem begin_fenced (S : List Nat) (A : Nat → Addr) {w : World} {F : Nat → Prop} {g : Nat} {l : List Pr} (hS : Sents S w A) (h13 : 13 ∈ S) (h : LineAt w F g l) (p q : Pr) (hr : Epo.right p = true) (hgl : l.getLast? = some q) (hq : p.ep < q.ep) :
    Calls Tryd.prog 12 #[.pointer (some ⟨g, 0, none⟩), .int .i64 p.ep, .int .i64 p.st] w (BegPost A F g 13 l w) := by
  have b1 := below_alloc w (.cells #[.int .i64 p.ep, .int .i64 p.st] 46)
  have rowp := heap_alloc_new w (.cells #[.int .i64 p.ep, .int .i64 p.st] 46)
  have hrc := prRight_calls p (w.alloc (.cells #[.int .i64 p.ep, .int .i64 p.st] 46))
  rw [hr] at hrc
  have g13 : ∀ w', Below w.heap.size w w' → w'.cell? ⟨3, 0, none⟩ = some (.iface 85 (.pointer (some (A 13)))) := fun w' b => (hS.below b).cell 13 h13
  have hold : ∀ k, F k → k < w.heap.size := by obtain ⟨_, h⟩ := h; exact h.old
  have H := Lib.hid h
  have hlc := fun W (hW : Below w.heap.size w W) => last_calls (h.below hW)
  unfold LastPost at hlc
  have hne : l ≠ [] := by rintro rfl; simp at hgl
  rw [hgl, decide_eq_true hne] at hlc
  simp only [Option.getD_some] at hlc
  clear hr hgl h
  go_enter Tryd.func12, Tryd.ntmps12
  go_wp2_with fail
  refine hrc.mono ?_
  rintro e w2 ⟨rfl, b2⟩
  go_wp2_with fail
  refine (hlc _ (nxt b1 b2)).mono ?_
  rintro e w3 ⟨rfl, b3⟩
  have B3 := nxt (nxt b1 b2) b3
  have b4 := below_alloc w3 (.cells #[.int .i64 q.ep, .int .i64 q.st] 46)
  have B4 := nxt B3 b4
  have k13 := g13 _ B4
  clear hrc hlc rowp b1 b2 b3 g13
  go_wp2_with fail
  go_ret
  unfold BegPost
  exact ⟨rfl, F, H.out.below B4, fun _ hk => .inl hk, Frame.of_below B4⟩

theorem flat_last (l : List Pr) (q p : Pr) (k : Nat) (hgl : l.getLast? = some q) (hk : l.length = k + 1) : ((l.flatMap prV).set (k * 2) (.int .i64 p.ep)).set (k * 2 + 1) (.int .i64 p.st) = (l.dropLast ++ [p]).flatMap prV := by
  obtain ⟨xs, rfl⟩ := List.getLast?_eq_some_iff.1 hgl
  have hx : xs.length = k := by simpa using hk
  have hf : ∀ ys : List Pr, (ys.flatMap prV).length = ys.length * 2 := by
    intro ys
    induction ys with
    | nil => rfl
    | cons y ys ih => rw [List.flatMap_cons, List.length_append, ih]; simp [prV]; omega
  rw [List.dropLast_concat, List.flatMap_append, List.flatMap_append, List.set_append_right _ _ (by rw [hf, hx]; omega), List.set_append_right _ _ (by rw [hf, hx]; omega), hf, hx]
  congr 1
  simp [prV]
end Go.Proofs.YtdlcpcpcojpecaaDoor
